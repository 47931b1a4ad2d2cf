/- The texts FnA, FnB, FnC, FnD, FnE, FnF, FnG, FnH, FnI, PuT, ShC, ShS, ItA, ItB, FnJ, FnK, FnL, FnM, FnN, FuA, FuB, FuC, FuD, FnO, PuA, PuB of the workplace, joined. -/
import Derived.Test.YtopcjbahjjhdmaaGreatB4
import Derived.Test.YtopcjbahjjhdmaaGreatProg
import Derived.Shelf.Slices.CompactI
import Derived.Shelf.SlicesE.DeleteFunc
import Derived.Shelf.Sort.Plain
import Derived.Shelf.Slices.In.SortNone
import Derived.RangeFuncBox
import Derived.RangeFuncWrites
import Derived.RangeFuncCalls
import Derived.RangeFuncLeaves
import Derived.Shelf.Abstract
import Derived.WalkKit
import Derived.OwnWalkIn
import Derived.TacticsInMore
import Derived.LoopNIn
import Derived.LoopIn
import Derived.Maps.AppendAt
namespace Go.Proofs.YtopcjbahjjhdmaaGreat
open Go Go.RowKit
set_option linter.unusedVariables false
set_option maxRecDepth 4000
def aN (v:Int):Bool:=decide (-1048576<=v/\v<=1048576)
theorem kZ (v:Int):Spec Tryz.prog 60 false [.int .i64 v] [.val (.bool (aN v))]:=by
 refine Spec.body Tryz.func60 Y Y Y λw0 Z0=> ?_;refine .B ?_;refine J.g Y Y Y (λh=> ?_) (λh=> ?_)
 ·refine .B ?_;exact⟨_,.v Y Y (by simp[aN,show -1048576<=v from h]) (λ_=>rfl) .nil⟩
 ·refine .B ?_;exact⟨_,.v Y Y (by simp[aN,show¬-1048576<=v from h]) (λ_=>rfl) .nil⟩
theorem mt (l:List Int)(v:Int)(hl:l.length<=9223372036854775806):Spec Tryz.prog 48 false [aq l,.int .i64 v] [.val (.bool (decide (v∈l)))]:=by
 refine Spec.body Tryz.func48 Y Y Y λw0 Z0=> ?_;refine .B ?_
 ·refine T.K (T.ind (λi:Nat=>⟨[(0,.val false (aq l)),(1,.val false (.int .i64 v)),(5,.val true (.int .i64 i))],[],0⟩) (λi=>i<=l.length/\∀x∈l.take i,x≠v) (λi=>l.length-i) 0 (by simp) (λ_ _ h=>h) ?_);rintro i ⟨hi,hx⟩ ih;refine .B ?_;refine T.cd Y (λh=> ?_) (λh=> ?_)
  ·simp at h;refine .B ?_;refine J.i Y Y Y Y Y Y Y Y Y (r:=cI l[i]) (by omega) (by simp[h]) rfl ?_;refine .B ?_;refine T.cd Y (λh2=> ?_) (λh2=> ?_)
   ·refine .B ?_;exact⟨_,.v Y Y (by rw[<-h2];simp) (λ_=>rfl) .nil⟩
   ·refine .B ?_;rw[af (by omega) (by omega)];refine T.K (ih (i+1) ⟨by omega,?_⟩ (by omega));intro x hm;rw[ED h]at hm;simp only[EW,EI]at hm;rcases hm with hm|hm;·exact hx x hm
    ·rw[hm];exact h2
  ·simp at h;refine .B ?_;refine⟨_,.v Y Y ?_ (λ_=>rfl) .nil⟩;rw[EY h]at hx;simp only[PV.bool.injEq,Bool.false_eq,decide_eq_false_iff_not];exact λhm=>hx v hm Y
def nk (v:Int):List Int->List Int
 | []=>[v]
 |x::xs=>if v<x then v::x::xs else x::nk v xs
def insU (v:Int)(l:List Int):List Int:=if v∈l then l else nk v l
def aT (l:List Int):List Int:=l.foldl (λout v=>insU v out) []
theorem nZ (v:Int): ∀l,(nk v l).length=l.length+1
 | []=>rfl
 |x::xs=>by simp only[nk];split<;>simp[nZ v xs]
theorem v6 (v:Int)(l:List Int):(insU v l).length<=l.length+1:=by
 unfold insU;split;·omega
 ·rw[nZ];omega
theorem kE: ∀(l out:List Int),(l.foldl (λout v=>insU v out) out).length<=out.length+l.length
 | [],out=>by simp
 |v::l,out=>by
  have h1:=kE l (insU v out);have h2:=v6 v out;simp only[En,El];omega
theorem ej (l:List Int):(aT l).length<=l.length:=by have:=kE l [];simpa[aT]using this
def rng (lo hi:Int):List Int:=(List.range (hi+1-lo).toNat).map (λk:Nat=>lo+k)
def vals (d:List (Int×Int)):List Int:=d.flatMap λr=>rng r.1 r.2
def InB (d:List (Int×Int)):Prop:= ∀r∈d,-1048576<=r.1/\r.1<=1048576/\-1048576<=r.2/\r.2<=1048576
theorem rt {l:List Int}{v:Int}:l.map cI++[(PV.int .i64 v).cells]=(l++[v]).map cI:=by simp[cI,PV.cells]
theorem A1 (lo:Int)(k:Nat):(List.range (k+1)).map (λk:Nat=>lo+k)=(List.range k).map (λk:Nat=>lo+k)++[lo+k]:=by simp[HQ]
theorem bB (d:List (Int×Int))(hb:InB d)(hl:(vals d).length*8<=140737488355328)(hd:d.length*16<=140737488355328):Spec Tryz.prog 47 false [dm d] [.own 3 1 ((vals d).map cI)]:=by
 refine Spec.body Tryz.func47 Y Y Y λw0 Z0=> ?_;refine .B ?_;refine .Q ?_;refine T.K (T.list d (λn pre post=>⟨[(0,.val false (dm d)),(3,.ref 0),(4,.val true (.int .i64 n))],[(0,some (.sl 3 1 true ((vals pre).map cI)))],1⟩) (λ_ _ h=>h) ?_ ?_)
 ·rintro n pre x post h hn ih;have hx:=hb x (by rw[h];simp);have hd1:pre.length<d.length:=(by rw[h];simp);have hlen:(vals pre).length+(rng x.1 x.2).length<=(vals d).length:=(by rw[h];simp[vals]);refine .B ?_;refine T.ct2 Y (bV h hn) ?_;refine .B ?_;refine .F (r:=cR x) (aM h hn) ?_;refine T.K (T.ind (λ(s:Int×List Int)=>⟨[(0,.val false (dm d)),(4,.val true (.int .i64 n)),(5,.val true (.int .i64 s.1)),(3,.ref 0)],[(0,some (.sl 3 1 true (s.2.map cI)))],1⟩)
   (λs=> ∃k,k<=(x.2+1-x.1).toNat/\s.1=x.1+k/\s.2=vals pre++(List.range k).map (λk:Nat=>x.1+k)) (λs=>(x.2+1-s.1).toNat) (x.1,vals pre) ⟨0,by simp⟩ (λ_ _ h=>h) ?_)
  rintro⟨v,acc⟩ ⟨k,hk,hv,hacc⟩ ih2;simp only at hv hacc ih2;refine .B ?_;refine .F (r:=cR x) (aM h hn) ?_;refine T.cd Y (λh1=> ?_) (λh1=> ?_)
  ·simp only at h1;refine .B ?_;have hk2:k+1<=(x.2+1-x.1).toNat:=(by omega);have hlr:(rng x.1 x.2).length=(x.2+1-x.1).toNat:=(by simp[rng]);refine .Z ?_;refine J.a Y Y Y Y Y Y Y Y Y Y Y Y Y Y Y Y Y (cy Y) (by show(List.length _+1)*8<=_;simp[hacc];omega) ?_;refine .B ?_;rw[af (by omega) (by omega),rt];exact T.K (ih2 (v+1,acc++[v]) ⟨k+1,hk2,by simp only;omega,by simp only;rw[A1,<-F5,<-hacc,<-hv]⟩ (by simp only;omega))
  ·simp only at h1;refine .B ?_;rw[ai (bW h hn) (by omega)];have hk2:k=(x.2+1-x.1).toNat:=(by omega);have e:vals (pre++[x])=acc:=(by rw[hacc,hk2];simp[vals,rng]);rw[e]at ih;exact T.K ih
 ·refine .B ?_;refine T.cf2 Y bj ?_;refine .B ?_;exact⟨_,.o Y Y Y (λ_=> .inl Y) (by simp) .nil⟩
def bu (v:Int)(s:List Int×Bool)(x:Int):List Int×Bool:=if s.2=false/\v<x then(s.1++[v]++[x],true)else(s.1++[x],s.2)
def nl (v:Int)(s:List Int×Bool):List Int:=if s.2 then s.1 else s.1++[v]
def CG (v:Int)(out:List Int):List Int:=nl v (out.foldl (bu v) ([],decide (v∈out)))
theorem fU (v:Int): ∀(out acc:List Int),out.foldl (bu v) (acc,true)=(acc++out,true)
 | [],acc=>by simp
 |x::out,acc=>by simp[bu,fU v out]
theorem kM (v:Int): ∀(out acc:List Int),nl v (out.foldl (bu v) (acc,false))=acc++nk v out
 | [],acc=>by simp[nk,nl]
 |x::out,acc=>by
  simp only[En,nk];by_cases h:v<x
  ·rw[E6 h];have:bu v (acc,false) x=(acc++[v]++[x],true):=(by simp[bu,h]);rw[this,fU];simp[nl]
  ·rw[E4 h];have:bu v (acc,false) x=(acc++[x],false):=(by simp[bu,h]);rw[this,kM v out (acc++[x])];simp
theorem CF (v:Int)(out:List Int):CG v out=insU v out:=by
 unfold CG insU;by_cases h:v∈out;·simp[h,fU,nl]
 ·have:=kM v out [];simpa[h]using this
theorem jH (v:Int): ∀(out:List Int) (s:List Int×Bool),(out.foldl (bu v) s).1.length<=s.1.length+out.length+1/\((out.foldl (bu v) s).2=false->(out.foldl (bu v) s).1.length=s.1.length+out.length)
 | [],s=>by simp
 |x::out,s=>by
  have h:=jH v out (bu v s x);simp only[En,El];by_cases hc:s.2=false/\v<x
  ·have e:bu v s x=(s.1++[v]++[x],true):=(by simp[bu,hc]);rw[e,fU];simp;omega
  ·have e:bu v s x=(s.1++[x],s.2):=(by simp only[bu,E4 hc]);rw[e]at h⊢;simp at h;constructor;·omega
   ·intro h2;have:=h.2 h2;omega
theorem dI (l:List Int)(hl:l.length*8<=140737488355328):Spec Tryz.prog 52 false [aq l] [.own 3 1 ((aT l).map cI)]:=by
 refine Spec.body Tryz.func52 Y Y Y λw0 Z0=> ?_;refine .B ?_;refine .Q ?_;refine T.K (T.list l (λn pre post=>⟨[(0,.val false (aq l)),(3,.ref 0),(4,.val true (.int .i64 n))],[(0,some (.sl 3 1 true ((aT pre).map cI)))],1⟩) (λ_ _ h=>h) ?_ ?_)
 ·rintro n pre x post h hn ih;have hlen:=ej pre;have hlt:=bW h hn;have hsu:aT (pre++[x])=CG x (aT pre):=(by rw[CF];simp[aT,H7]);generalize hout:aT pre=out at*;refine .B ?_;refine T.ct2 Y (bV h hn) ?_;refine .B ?_;refine .Q ?_;refine .F (r:=cI x) (aM h hn) ?_;refine .D (mt out x (by omega)) ?_;refine T.K (T.list out (λk pre2 post2=>⟨[(0,.val false (aq l)),(3,.ref 0),(4,.val true (.int .i64 n)),(5,.ref 1),(6,.val true (.bool (pre2.foldl (bu x) ([],decide (x∈out))).2)),(7,.val true (.int .i64 k))],
   [(0,some (.sl 3 1 true (out.map cI))),(1,some (.sl 3 1 true ((pre2.foldl (bu x) ([],decide (x∈out))).1.map cI)))],2⟩) (λ_ _ h=>h) ?_ ?_)
  ·rintro k pre2 y post2 h2 hn2 ih2;have hlt2:=bW h2 hn2;rw[H7,En,IF]at ih2;have hsl:=jH x pre2 ([],decide (x∈out));generalize hs:pre2.foldl (bu x) ([],decide (x∈out))=s at*;obtain⟨nxt,put⟩:=s;simp only[Fg]at hsl;refine .B ?_;refine T.ct2 Y (bV h2 hn2) ?_;refine .B ?_;cases put
   ·have h9:nxt.length=0+pre2.length:=hsl.2 Y;refine .B ?_;refine .F (r:=cI x) (aM h hn) ?_;refine J.io Y Y Y Y Y Y Y Y Y (by omega) (by simp;omega) Y ?_;refine J.lo Y Y Y Y Y Y (r:=cI y) (aM h2 hn2) Y ?_;refine .B ?_;refine T.cd Y (λhxy=> ?_) (λhxy=> ?_)
    ·have e:bu x (nxt,false) y=(nxt++[x]++[y],true):=(by simp[bu,hxy]);rw[e]at ih2;refine .B ?_;refine .F (r:=cI x) (aM h hn) ?_;refine .Z ?_;refine J.a Y Y Y Y Y Y Y Y Y Y Y Y Y Y Y Y Y (cy Y) (by show(List.length _+1)*8<=_;simp;omega) ?_;refine .B ?_;refine J.io Y Y Y Y Y Y Y Y Y (by omega) (by simp;omega) Y ?_;refine J.lo Y Y Y Y Y Y (r:=cI y) (aM h2 hn2) Y ?_;refine .B ?_;refine .Z ?_;refine J.a Y Y Y Y Y Y Y Y Y Y Y Y Y Y Y Y Y (cy Y) (by show(List.length _+1)*8<=_;simp;omega) ?_;refine .B ?_;rw[ai hlt2 (by omega)];rw[rt,rt];exact T.K ih2
    ·have e:bu x (nxt,false) y=(nxt++[y],false):=(by simp[bu,hxy]);rw[e]at ih2;refine .B ?_;refine J.io Y Y Y Y Y Y Y Y Y (by omega) (by simp;omega) Y ?_;refine J.lo Y Y Y Y Y Y (r:=cI y) (aM h2 hn2) Y ?_;refine .B ?_;refine .Z ?_;refine J.a Y Y Y Y Y Y Y Y Y Y Y Y Y Y Y Y Y (cy Y) (by show(List.length _+1)*8<=_;simp;omega) ?_;refine .B ?_;rw[ai hlt2 (by omega),rt];exact T.K ih2
   ·have e:bu x (nxt,true) y=(nxt++[y],true):=(by simp[bu]);rw[e]at ih2;refine .B ?_;refine T.cf Y ?_;refine .B ?_;refine J.io Y Y Y Y Y Y Y Y Y (by omega) (by simp;omega) Y ?_;refine J.lo Y Y Y Y Y Y (r:=cI y) (aM h2 hn2) Y ?_;refine .B ?_;refine .Z ?_;refine J.a Y Y Y Y Y Y Y Y Y Y Y Y Y Y Y Y Y (cy Y) (by show(List.length _+1)*8<=_;simp;omega) ?_;refine .B ?_;rw[ai hlt2 (by omega),rt];exact T.K ih2
  ·have hsl:=jH x out ([],decide (x∈out));have hfin:CG x out=nl x (out.foldl (bu x) ([],decide (x∈out))):=rfl;rw[hsu,hfin]at ih;generalize hs:out.foldl (bu x) ([],decide (x∈out))=s at*;obtain⟨nxt,put⟩:=s;simp only[Fg]at hsl;refine .B ?_;refine T.cf2 Y bj ?_;refine .B ?_;cases put
   ·have h9:nxt.length=0+out.length:=hsl.2 Y;refine .B ?_;refine T.ct Y ?_;refine .B ?_;refine .F (r:=cI x) (aM h hn) ?_;refine .Z ?_;refine J.a Y Y Y Y Y Y Y Y Y Y Y Y Y Y Y Y Y (cy Y) (by show(List.length _+1)*8<=_;simp;omega) ?_;refine .B ?_;rw[ai hlt (by omega),rt];exact T.K ih
   ·refine .B ?_;refine T.cf Y ?_;refine .B ?_;rw[ai hlt (by omega)];exact T.K ih
 ·refine .B ?_;refine T.cf2 Y bj ?_;refine .B ?_;exact⟨_,.o Y Y Y (λ_=> .inl Y) (by simp) .nil⟩
def dn (lo:Int):Int->List Int->List (Int×Int)
 |x,[]=>[(lo,x)]
 |x,y::ys=>if y=x+1 then dn lo y ys else(lo,x)::dn y y ys
def bX:List Int->List (Int×Int)
 | []=>[]
 |x::xs=>dn x x xs
theorem im (l:List Int)(hv: ∀v∈l,-4611686018427387904<=v/\v<=4611686018427387904)(hl:l.length*16<=140737488355328):Spec Tryz.prog 208 false [aq l] [.own 53 2 ((bX l).map cR)]:=by
 refine Spec.body Tryz.func208 Y Y Y λw0 Z0=> ?_;refine .B ?_;refine .Q ?_;refine T.K (T.ind (λ(s:Nat×Nat×List (Int×Int))=>⟨[(0,.val false (aq l)),(3,.ref 0),(4,.val true (.int .i64 s.2.1)),(5,.val true (.int .i64 s.1))],[(0,some (.sl 53 2 true (s.2.2.map cR)))],1⟩)
  (λs=>s.1<=l.length/\s.2.1<=s.1/\s.2.2.length<=s.1/\(s.1=l.length->s.2.2=bX l)/\∀x y,l[s.1]? =some x->l[s.2.1]? =some y->s.2.2++dn y x (l.drop (s.1+1))=bX l) (λs=>l.length-s.1) (0,0,[]) ⟨by simp,by simp,by simp,?_,?_⟩ (λ_ _ h=>h) ?_)
 ·intro h;cases l with
  |nil=>rfl
  |cons x l=>simp at h
 ·intro x y h1 h2;cases l with
  |nil=>simp at h1
  |cons z l=>simp at h1 h2;subst h1 h2;simp[bX]
 ·rintro⟨i,f,out⟩ ⟨hi,hf,hol,he,hp⟩ ih;simp only at hi hf hol he hp ih;dsimp only;refine .B ?_;refine T.cd Y (λh=> ?_) (λh=> ?_)
  ·simp at h;have hx:=hp l[i] l[f] (by simp) (by simp);have hv1:=hv l[i] (by simp);refine .B ?_;rw[ai h (by omega)];refine J.g Y Y Y (λh2=> ?_) (λh2=> ?_)
   ·simp at h2;refine .M ?_;refine T.ct Y ?_;refine .M ?_;refine T.rdm 11 Y (by kernel_rfl) Y ?_;refine .B ?_;refine .F (r:=cI l[f]) (ax (by omega)) ?_;refine .F (r:=cI l[i]) (ax h) ?_;refine .Z ?_;refine J.aR Y Y Y Y Y Y Y Y Y Y Y Y Y Y Y Y Y Y Y (by omega) ?_;refine .B ?_;rw[ai h (by omega)];refine T.K (ih (i+1,i+1,out++[(l[f],l[i])]) ⟨by simp only;omega,by simp only;omega,by simp;omega,λ_=> ?_,λx y hx1 _=> ?_⟩ (by simp only;omega))
    ·rw[Fb (by omega)]at hx;exact hx
    ·simp only at hx1;rw[FD (by omega)]at hx1;cases hx1
   ·simp at h2;refine .B ?_;rw[ai h (by omega)];have h3:i+1<l.length:=(by omega);refine .F (r:=cI l[i+1]) (ax h3) ?_;refine .I (r:=cI l[i]) (ax h) ?_;refine .M ?_;rw[EP h3,dn]at hx;have hv2:=hv l[i+1] (by simp);refine T.cd Y (λh4=> ?_) (λh4=> ?_)
    ·rw[af (by omega) (by omega)]at h4;rw[E4 h4]at hx;refine .M ?_;refine T.rdm 11 Y (by kernel_rfl) Y ?_;refine .B ?_;refine .F (r:=cI l[f]) (ax (by omega)) ?_;refine .F (r:=cI l[i]) (ax h) ?_;refine .Z ?_;refine J.aR Y Y Y Y Y Y Y Y Y Y Y Y Y Y Y Y Y Y Y (by omega) ?_;refine .B ?_;rw[ai h (by omega)];refine T.K (ih (i+1,i+1,out++[(l[f],l[i])]) ⟨by simp only;omega,by simp only;omega,by simp;omega,λh5=> ?_,λx y hx1 hy1=> ?_⟩ (by simp only;omega));·simp only at h5;omega
     ·simp only[E5 h3,E9]at hx1 hy1⊢;subst hx1 hy1;rw[F5];exact hx
    ·rw[af (by omega) (by omega)]at h4;have h4:l[i+1]=l[i]+1:=Classical.not_not.1 h4;rw[E6 h4]at hx;refine .B ?_;rw[ai h (by omega)];refine T.K (ih (i+1,f,out) ⟨by simp only;omega,by simp only;omega,by simp only;omega,λh5=> ?_,λx y hx1 hy1=> ?_⟩ (by simp only;omega));·simp only at h5;omega
     ·simp only[E5 h3,E9]at hx1 hy1⊢;have:f<l.length:=(by omega);rw[E5 this,E9]at hy1;subst hx1 hy1;exact hx
  ·simp at h;refine .B ?_;exact⟨_,.o Y Y (by rw[he (by omega)]) (λ_=> .inl Y) (by simp) .nil⟩
def cutR (d:List (Int×Int))(lo hi:Int):List (Int×Int):=bX ((vals d).filter λv=>decide (lo<=v)&&decide (v<=hi))
theorem oC {d:List (Int×Int)}(hb:InB d): ∀v∈vals d,-1048576<=v/\v<=1048576:=by
 intro v hv;obtain⟨r,hr,hv⟩:=GH.1 hv;obtain⟨h1,h2,h3,h4⟩:=hb r hr;obtain⟨k,hk,rfl⟩:=EH.1 hv;have:=ES.1 hk;omega
def DomB (d:List (Int×Int)):Prop:=InB d/\(vals d).length*16<=140737488355328/\d.length*16<=140737488355328
theorem mD (d:List (Int×Int))(lo hi:Int)(hd:DomB d):Spec Tryz.prog 211 false [dm d,.int .i64 lo,.int .i64 hi] [.own 53 2 ((cutR d lo hi).map cR)]:=by
 refine Spec.body Tryz.func211 Y Y Y λw0 Z0=> ?_;obtain⟨hb,hd1,hd2⟩:=hd;have hvb:=oC hb;have hcut:cutR d lo hi=bX ((vals d).filter λv=>decide (lo<=v)&&decide (v<=hi)):=rfl;have hval:=(bB d hb (by omega) hd2).frz;generalize vals d=l at*;refine .B ?_;refine .D hval ?_;refine .Q ?_;refine T.K (T.list l (λn pre post=>⟨[(0,.val false (dm d)),(1,.val false (.int .i64 lo)),(2,.val false (.int .i64 hi)),(7,.val true (aq l)),(8,.ref 0),(9,.val true (.int .i64 n))],[(0,some (.sl 3 1 true ((pre.filter λv=>decide (lo<=v)&&decide (v<=hi)).map cI)))],1⟩) (λ_ _ h=>h) ?_ ?_)
 ·rintro n pre x post h hn ih;have hlt:=bW h hn;have hfl:=Ez (λv=>decide (lo<=v)&&decide (v<=hi)) pre;rw[Fh]at ih;generalize hf:pre.filter (λv=>decide (lo<=v)&&decide (v<=hi))=out at*;refine .B ?_;refine T.ct2 Y (bV h hn) ?_;refine .B ?_;refine .F (r:=cI x) (aM h hn) ?_;refine J.g Y Y Y (λh1=> ?_) (λh1=> ?_)
  ·refine .B ?_;refine .F (r:=cI x) (aM h hn) ?_;refine T.cd Y (λh2=> ?_) (λh2=> ?_)
   ·have e: [x].filter (λv=>decide (lo<=v)&&decide (v<=hi))=[x]:=(by simp[show lo<=x from h1,h2]);rw[e]at ih;refine .B ?_;refine .F (r:=cI x) (aM h hn) ?_;refine .Z ?_;refine J.aI Y Y Y Y Y Y Y Y Y Y Y Y Y Y Y Y Y Y Y (by omega) ?_;refine .B ?_;rw[ai hlt (by omega)];exact T.K ih
   ·have e: [x].filter (λv=>decide (lo<=v)&&decide (v<=hi))=[]:=(by simp[h2]);rw[e,FU]at ih;refine .B ?_;rw[ai hlt (by omega)];exact T.K ih
  ·have e: [x].filter (λv=>decide (lo<=v)&&decide (v<=hi))=[]:=(by simp[show¬lo<=x from h1]);rw[e,FU]at ih;refine .B ?_;refine T.cf Y ?_;refine .B ?_;rw[ai hlt (by omega)];exact T.K ih
 ·have hfl:=Ez (λv=>decide (lo<=v)&&decide (v<=hi)) l;have hfm: ∀v∈l.filter (λv=>decide (lo<=v)&&decide (v<=hi)),-4611686018427387904<=v/\v<=4611686018427387904:=λv hv=>by
   have:=hvb v (FB.1 hv).1;omega
  refine .B ?_;refine T.cf2 Y bj ?_;refine .B ?_;refine J.cc Y Y Y Y Y (im _ hfm (by omega)) Y Y ?_;refine .B ?_;exact⟨_,.o Y Y (by rw[hcut]) (λ_=> .inl Y) (by simp) .nil⟩
theorem vZ (v x:Int): ∀l,x∈insU v l↔x=v∨x∈l:=by
 have key: ∀l,x∈nk v l↔x=v∨x∈l:=by
  intro l
  induction l with
  |nil=>simp[nk]
  |cons y l ih=>simp only[nk];split<;>simp[ih];grind
 intro l;unfold insU;split
 ·rename_i h;constructor;·exact .inr
  ·rintro(rfl|h2);·exact h
   ·exact h2
 ·exact key l
theorem bI (x:Int)(l:List Int):x∈aT l↔x∈l:=by
 have key: ∀(l out:List Int),x∈l.foldl (λout v=>insU v out) out↔x∈out∨x∈l:=by
  intro l
  induction l with
  |nil=>simp
  |cons v l ih=>intro out;rw[En,ih,vZ];simp;grind
 simpa[aT]using key l []
def dq (d:List (Int×Int)):Int×Int×Bool:=match vals d with
 | []=>(0,0,false)
 |x::l=>(x,(x::l).getLast (by simp),true)
theorem nw (d:List (Int×Int))(hd:DomB d):Spec Tryz.prog 214 false [dm d] [.val (.int .i64 (dq d).1),.val (.int .i64 (dq d).2.1),.val (.bool (dq d).2.2)]:=by
 refine Spec.body Tryz.func214 Y Y Y λw0 Z0=> ?_;obtain⟨hb,hd1,hd2⟩:=hd;have hval:=(bB d hb (by omega) hd2).frz;unfold dq;generalize vals d=l at*;refine .B ?_;refine .D hval ?_;cases l with
 |nil=>
  refine T.ct2 Y Y ?_;refine .B ?_;exact⟨_,.v Y Y Y (λ_=>rfl) (.v Y Y Y (λ_=>rfl) (.v Y Y Y (λ_=>rfl) .nil))⟩
 |cons x l=>
  refine T.cf2 Y (by simp;omega) ?_;refine .B ?_;refine .F (r:=cI x) Y ?_;simp only[EB,El]at hd1⊢;rw[af (by omega) (by omega)];have hi:((x::l).map cI)[(((l.length+1:Nat):Int)-1).toNat]? =some (cI ((x::l).getLast (by simp))):=by
   rw[show(((l.length+1:Nat):Int)-1).toNat=(x::l).length-1 by simp];rw[EJ,<-List.getLast?_eq_getElem?,Gu (by simp)];rfl
  refine .F (r:=cI ((x::l).getLast (by simp))) hi ?_;exact⟨_,.v Y Y Y (λ_=>rfl) (.v Y Y Y (λ_=>rfl) (.v Y Y Y (λ_=>rfl) .nil))⟩
theorem ie {α:Type}{a b:List α}{i:Nat}(h:a.take i=b.take i)(ha:i<a.length)(hb:i<b.length)(he:a[i]=b[i]):a.take (i+1)=b.take (i+1):=by
 rw[ED ha,ED hb,h,he]
theorem du (a b:List Int)(hl:a.length*8<=140737488355328):Spec Tryz.prog 20 false [aq a,aq b] [.val (.bool (decide (a=b)))]:=by
 refine Spec.body Tryz.func20 Y Y Y λw0 Z0=> ?_;refine .B ?_;refine T.cd Y (λh=> ?_) (λh=> ?_)
 ·refine .B ?_;exact⟨_,.v Y Y (by simp only[EB]at h;rw[EE];intro e;subst e;exact h Y) (λ_=>rfl) .nil⟩
 ·have hlen:a.length=b.length:=(by simp only[EB,ne_eq,Classical.not_not]at h;omega);refine .B ?_;refine T.K (T.ind (λi:Nat=>⟨[(0,.val false (aq a)),(1,.val false (aq b)),(5,.val true (.int .i64 i))],[],0⟩) (λi=>i<=a.length/\a.take i=b.take i) (λi=>a.length-i) 0 (by simp) (λ_ _ h=>h) ?_);rintro i ⟨hi,ht⟩ ih;refine .B ?_;refine T.cd Y (λh1=> ?_) (λh1=> ?_)
  ·simp at h1;refine .B ?_;refine .F (r:=cI a[i]) (ax h1) ?_;refine .F (r:=cI b[i]) (ax (by omega)) ?_;refine T.cd Y (λh2=> ?_) (λh2=> ?_)
   ·refine .B ?_;exact⟨_,.v Y Y (by rw[EE];intro e;subst e;exact h2 Y) (λ_=>rfl) .nil⟩
   ·refine .B ?_;rw[ai h1 (by omega)];exact T.K (ih (i+1) ⟨by omega,ie ht h1 (by omega) (Classical.not_not.1 h2)⟩ (by omega))
  ·simp at h1;refine .B ?_;refine⟨_,.v Y Y ?_ (λ_=>rfl) .nil⟩;rw[EY (by omega),EY (by omega)]at ht;simp[ht]
theorem rx (a b:List (Int×Int))(hl:a.length*8<=140737488355328):Spec Tryz.prog 40 false [dm a,dm b] [.val (.bool (decide (a=b)))]:=by
 refine Spec.body Tryz.func40 Y Y Y λw0 Z0=> ?_;refine .B ?_;refine T.cd Y (λh=> ?_) (λh=> ?_)
 ·refine .B ?_;exact⟨_,.v Y Y (by simp only[EB]at h;rw[EE];intro e;subst e;exact h Y) (λ_=>rfl) .nil⟩
 ·have hlen:a.length=b.length:=(by simp only[EB,ne_eq,Classical.not_not]at h;omega);refine .B ?_;refine T.K (T.ind (λi:Nat=>⟨[(0,.val false (dm a)),(1,.val false (dm b)),(5,.val true (.int .i64 i))],[],0⟩) (λi=>i<=a.length/\a.take i=b.take i) (λi=>a.length-i) 0 (by simp) (λ_ _ h=>h) ?_);rintro i ⟨hi,ht⟩ ih;refine .B ?_;refine T.cd Y (λh1=> ?_) (λh1=> ?_)
  ·simp at h1;refine .B ?_;refine .F (r:=cR a[i]) (ax h1) ?_;refine .F (r:=cR b[i]) (ax (by omega)) ?_;refine J.se [a[i].1,a[i].2] [b[i].1,b[i].2] Y Y Y Y Y Y Y Y (by kernel_rfl) (by kernel_rfl) (by kernel_rfl) (by kernel_rfl) Y Y (.inr Y) ?_;refine .B ?_;refine T.cond Y (λh2=> ?_) (λh2=> ?_)
   ·refine .B ?_;exact⟨_,.v Y Y (by rw[EE];intro e;subst e;simp at h2) (λ_=>rfl) .nil⟩
   ·refine .B ?_;rw[ai h1 (by omega)];refine T.K (ih (i+1) ⟨by omega,ie ht h1 (by omega) ?_⟩ (by omega));simp at h2;exact Prod.ext h2.1 h2.2
  ·simp at h1;refine .B ?_;refine⟨_,.v Y Y ?_ (λ_=>rfl) .nil⟩;rw[EY (by omega),EY (by omega)]at ht;simp[ht]
theorem dN (d:List (List (Int×Int)))(hl:d.length*8<=140737488355328):Spec Tryz.prog 117 false [ao d] [.val (.bool (decide ([]∈d)))]:=by
 refine Spec.body Tryz.func117 Y Y Y λw0 Z0=> ?_;refine .B ?_;refine T.K (T.listI d (λpre=>[]∉pre) (λn pre post=>⟨[(0,.val false (ao d)),(3,.val true (.int .i64 n))],[],0⟩) (λ_ _ h=>h) (by simp) ?_ ?_)
 ·rintro n pre x post h hn hi ih;have hlt:=bW h hn;refine .B ?_;refine T.ct2 Y (bV h hn) ?_;refine .B ?_;refine .F (r:=cD x) (aM h hn) ?_;refine T.cd Y (λh1=> ?_) (λh1=> ?_)
  ·refine .B ?_;refine⟨_,.v Y Y ?_ (λ_=>rfl) .nil⟩;have:x=[]:=(by simp at h1;exact h1);rw[h,this];simp
  ·refine .B ?_;rw[ai hlt (by omega)];refine T.K (ih ?_);simp only[EW,EI,not_or];refine⟨hi,λe=>h1 ?_⟩;rw[<-e];rfl
 ·intro hi;refine .B ?_;refine T.cf2 Y bj ?_;refine .B ?_;exact⟨_,.v Y Y (by simp[hi]) (λ_=>rfl) .nil⟩
theorem cJ (d:List (List (Int×Int)))(hl:d.length*24<=140737488355328)(hx: ∀x∈d,x.length*16<=140737488355328):Spec Tryz.prog 59 false [ao d] [.own 54 1 (d.map cD)]:=by
 refine Spec.body Tryz.func59 Y Y Y λw0 Z0=> ?_;refine .B ?_;refine .Q ?_;refine T.K (T.list d (λn pre post=>⟨[(0,.val false (ao d)),(3,.ref 0),(4,.val true (.int .i64 n))],[(0,some (.sl 54 1 true (pre.map cD)))],1⟩) (λ_ _ h=>h) ?_ ?_)
 ·rintro n pre x post h hn ih;have hlt:=bW h hn;have hxl:=hx x (by rw[h];simp);refine .B ?_;refine T.ct2 Y (bV h hn) ?_;refine .B ?_;refine .Q ?_;refine .F (r:=cD x) (aM h hn) ?_;refine J.a Y Y Y Y Y Y Y Y Y Y Y Y Y Y Y Y Y yU (by show(0+List.length _)*16<=_;simp;omega) ?_;refine .B ?_;refine J.sub (Rel.flat (o:=2) Y tM) ?_;refine J.sub (Rel.frz (s:=18) (λ_ h=>h) Y Y) ?_;refine .Z ?_;refine J.aD Y Y Y Y Y Y Y Y Y Y Y Y Y Y Y Y Y Y Y (by omega) ?_;refine .B ?_;rw[ai hlt (by omega)];exact T.K ih
 ·refine .B ?_;refine T.cf2 Y bj ?_;refine .B ?_;exact⟨_,.o Y Y Y (λ_=> .inl Y) (by simp) .nil⟩
theorem ld (a b:List (List (Int×Int)))(hl:a.length*8<=140737488355328)(hx: ∀x∈a,x.length*8<=140737488355328):Spec Tryz.prog 119 false [ao a,ao b] [.val (.bool (decide (a=b)))]:=by
 refine Spec.body Tryz.func119 Y Y Y λw0 Z0=> ?_;refine .B ?_;refine T.cd Y (λh=> ?_) (λh=> ?_)
 ·refine .B ?_;exact⟨_,.v Y Y (by simp only[EB]at h;rw[EE];intro e;subst e;exact h Y) (λ_=>rfl) .nil⟩
 ·have hlen:a.length=b.length:=(by simp only[EB,ne_eq,Classical.not_not]at h;omega);refine .B ?_;refine T.K (T.ind (λi:Nat=>⟨[(0,.val false (ao a)),(1,.val false (ao b)),(5,.val true (.int .i64 i))],[],0⟩) (λi=>i<=a.length/\a.take i=b.take i) (λi=>a.length-i) 0 (by simp) (λ_ _ h=>h) ?_);rintro i ⟨hi,ht⟩ ih;refine .B ?_;refine T.cd Y (λh1=> ?_) (λh1=> ?_)
  ·simp at h1;refine .B ?_;refine .F (r:=cD a[i]) (ax h1) ?_;refine .F (r:=cD b[i]) (ax (by omega)) ?_;refine J.cc Y Y Y Y Y (rx a[i] b[i] (hx _ (by simp))) rfl rfl ?_;refine .B ?_;refine T.cond Y (λh2=> ?_) (λh2=> ?_)
   ·refine .B ?_;exact⟨_,.v Y Y (by rw[EE];intro e;subst e;simp at h2) (λ_=>rfl) .nil⟩
   ·refine .B ?_;rw[ai h1 (by omega)];exact T.K (ih (i+1) ⟨by omega,ie ht h1 (by omega) (by simpa using h2)⟩ (by omega))
  ·simp at h1;refine .B ?_;refine⟨_,.v Y Y ?_ (λ_=>rfl) .nil⟩;rw[EY (by omega),EY (by omega)]at ht;simp[ht]
theorem bT (d:List (Int×Int))(hd:d.length*16<=140737488355328):Spec Tryz.prog 102 false [dm d] [.own 53 2 (d.map cR)]:=by
 refine Spec.body Tryz.func102 Y Y Y λw0 Z0=> ?_;refine .B ?_;refine J.nc Y Y Y Y Y Y Y λb hb=> ?_;refine .B ?_;cases b
 ·refine T.cf Y ?_;refine .B ?_;refine .Q ?_;refine J.a Y Y Y Y Y Y Y Y Y Y Y Y Y Y Y Y Y yU (by show(0+List.length _)*16<=_;simp;omega) ?_;refine .B ?_;exact⟨_,.o Y Y Y (λ_=> .inr tM) (by simp) .nil⟩
 ·have:d=[]:=(by simpa using hb Y);subst this;refine T.ct Y ?_;refine .B ?_;exact⟨_,.ownN Y .nil⟩
def aP (d:List (Int×Int)):Int:=match d.getLast? with
 |some r=>r.2
 |none=>0
def av (d:List (Int×Int)):Int:=match d with
 |r::_=>r.1
 | []=>0
theorem ly (d:List (Int×Int)):Spec Tryz.prog 108 false [dm d] [.val (.int .i64 (av d)),.val (.bool (!d.isEmpty))]:=by
 refine Spec.body Tryz.func108 Y Y Y λw0 Z0=> ?_;refine .B ?_;cases d with
 |nil=>
  refine T.ct2 Y Y ?_;refine .B ?_;exact r2
 |cons x d=>
  refine T.cf2 Y (by simp;omega) ?_;refine .B ?_;refine .F (r:=cR x) Y ?_;exact r2
theorem rS (d:List (Int×Int))(hd:d.length*8<=140737488355328):Spec Tryz.prog 232 false [dm d] [.val (.int .i64 (aP d)),.val (.bool (!d.isEmpty))]:=by
 refine Spec.body Tryz.func232 Y Y Y λw0 Z0=> ?_;refine .B ?_;by_cases hn:d=[]
 ·subst hn;refine T.ct2 Y Y ?_;refine .B ?_;exact r2
 ·have hpos:=HM.2 hn;refine T.cf2 Y (by simp[hn]) ?_;refine .B ?_;rw[af (by simp;omega) (by simp;omega)];have e1:((List.map cR d).length:Int)-1=((d.length-1:Nat):Int):=(by simp;omega);rw[e1];refine .I (r:=cR (d.getLast hn)) ?_ ?_
  ·rw[List.getLast_eq_getElem];exact ax (by omega)
  refine .B ?_;exact⟨_,.v Y Y (by simp[aP,Gu hn]) (λ_=>rfl) (.v Y Y (by simp[hn]) (λ_=>rfl) .nil)⟩
def yP:Nat->List (Int×Int)->List (Int×Int)->List (Int×Int)
 |n+1,x::xs,y::ys=>(if max x.1 y.1<=min x.2 y.2 then [(max x.1 y.1,min x.2 y.2)]else [])++(if x.2<y.2 then yP n xs (y::ys)else yP n (x::xs) ys)
 |_,_,_=>[]
def bJ (a b:List (Int×Int)):List (Int×Int):=yP (a.length+b.length) a b
theorem iO (x y:Int×Int)(xs ys:List (Int×Int)):bJ (x::xs) (y::ys)=(if max x.1 y.1<=min x.2 y.2 then [(max x.1 y.1,min x.2 y.2)]else [])++(if x.2<y.2 then bJ xs (y::ys)else bJ (x::xs) ys):=by
 unfold bJ;rw[show(x::xs).length+(y::ys).length=(xs.length+ys.length+1)+1 by simp;omega,yP];rw[show xs.length+(y::ys).length=xs.length+ys.length+1 by simp;omega,show(x::xs).length+ys.length=xs.length+ys.length+1 by simp;omega]
theorem oL (b:List (Int×Int)):bJ [] b=[]:=by
 unfold bJ;generalize ([]:List (Int×Int)).length+b.length=n;cases n<;>rfl
theorem oK (a:List (Int×Int)):bJ a []=[]:=by
 unfold bJ;generalize a.length+([]:List (Int×Int)).length=n;cases n with
 |zero=>rfl
 |succ n=>cases a<;>rfl
theorem m5 (a b:List (Int×Int))(hl:(a.length+b.length)*16<=140737488355328):Spec Tryz.prog 189 false [dm a,dm b] [.own 53 2 ((bJ a b).map cR)]:=by
 refine Spec.body Tryz.func189 Y Y Y λw0 Z0=> ?_;refine .B ?_;refine T.sub (Rel.own0 (s:=5) 53 2 Y) ?_;refine T.K (T.ind (λ(s:Nat×Nat×List (Int×Int))=>⟨[(0,.val false (dm a)),(1,.val false (dm b)),(5,.ref 0),(6,.val true (.int .i64 s.1)),(7,.val true (.int .i64 s.2.1))],[(0,some (.sl 53 2 true (s.2.2.map cR)))],1⟩)
  (λs=>s.1<=a.length/\s.2.1<=b.length/\s.2.2.length<=s.1+s.2.1/\s.2.2++bJ (a.drop s.1) (b.drop s.2.1)=bJ a b) (λs=>(a.length-s.1)+(b.length-s.2.1)) (0,0,[]) (by simp) (λ_ _ h=>h) ?_)
 rintro⟨i,k,out⟩ ⟨hi,hk,hol,he⟩ ih;simp only at hi hk hol he ih;dsimp only;refine .B ?_;have fin: ∀(h: ¬(i<a.length/\k<b.length)),out=bJ a b:=by
  intro h;rw[<-he];by_cases h1:i<a.length
  ·have h2: ¬k<b.length:=λh2=>h ⟨h1,h2⟩;rw[Fb (l:=b) (by omega)];simp[oK]
  ·rw[Fb (l:=a) (by omega)];simp[oL]
 refine J.g Y Y Y (λh1=> ?_) (λh1=> ?_)
 ·refine .B ?_;simp at h1;refine T.cd Y (λh2=> ?_) (λh2=> ?_)
  ·simp at h2;rw[EP h1,EP h2,iO]at he;have hai:=ax (enc:=cR) h1;have hbk:=ax (enc:=cR) h2;have hda:a.drop (i+1)=(a.drop i).tail:=(by simp);refine .B ?_;refine .F (r:=cR a[i]) hai ?_;refine .F (r:=cR b[k]) hbk ?_;refine .F (r:=cR a[i]) hai ?_;refine .F (r:=cR b[k]) hbk ?_;refine T.cd Y (λh3=> ?_) (λh3=> ?_)
   ·try simp only at h3
    rw[E6 h3]at he;refine .B ?_;refine .Z ?_;refine J.aR Y Y Y Y Y Y Y Y Y Y Y Y Y Y Y Y Y Y Y (by omega) ?_;refine .B ?_;refine .F (r:=cR a[i]) hai ?_;refine .F (r:=cR b[k]) hbk ?_;refine T.cd Y (λh4=> ?_) (λh4=> ?_)
    ·try simp only at h4
     rw[E6 h4,<-EP h2]at he;refine .B ?_;rw[ai h1 (by omega)];exact T.K (ih (i+1,k,out++[(max a[i].1 b[k].1,min a[i].2 b[k].2)]) ⟨by simp only;omega,by simp only;omega,by simp;omega,by simp only;rw[F5];exact he⟩ (by simp only;omega))
    ·try simp only at h4
     rw[E4 h4,<-EP h1]at he;refine .B ?_;rw[ai h2 (by omega)];exact T.K (ih (i,k+1,out++[(max a[i].1 b[k].1,min a[i].2 b[k].2)]) ⟨by simp only;omega,by simp only;omega,by simp;omega,by simp only;rw[F5];exact he⟩ (by simp only;omega))
   ·try simp only at h3
    rw[E4 h3,Ff]at he;refine .B ?_;refine .F (r:=cR a[i]) hai ?_;refine .F (r:=cR b[k]) hbk ?_;refine T.cd Y (λh4=> ?_) (λh4=> ?_)
    ·try simp only at h4
     rw[E6 h4,<-EP h2]at he;refine .B ?_;rw[ai h1 (by omega)];exact T.K (ih (i+1,k,out) ⟨by simp only;omega,by simp only;omega,by simp only;omega,he⟩ (by simp only;omega))
    ·try simp only at h4
     rw[E4 h4,<-EP h1]at he;refine .B ?_;rw[ai h2 (by omega)];exact T.K (ih (i,k+1,out) ⟨by simp only;omega,by simp only;omega,by simp only;omega,he⟩ (by simp only;omega))
  ·simp at h2;refine .B ?_;exact⟨_,.o Y Y (by rw[fin (by omega)]) (λ_=> .inl Y) (by simp) .nil⟩
 ·simp at h1;refine .B ?_;refine T.cf Y ?_;refine .B ?_;exact⟨_,.o Y Y (by rw[fin (by omega)]) (λ_=> .inl Y) (by simp) .nil⟩
def domCut (d:List (Int×Int))(lo hi:Int):List (Int×Int):=if hi<lo then []else bJ d [(lo,hi)]
theorem gS (d:List (Int×Int))(lo hi:Int)(hd:(d.length+1)*16<=140737488355328):Spec Tryz.prog 197 false [dm d,.int .i64 lo,.int .i64 hi] [.own 53 2 ((domCut d lo hi).map cR)]:=by
 refine Spec.body Tryz.func197 Y Y Y λw0 Z0=> ?_;refine .B ?_;refine T.cd Y (λh=> ?_) (λh=> ?_)
 ·have e:domCut d lo hi=[]:=(by simp[domCut];intro h2;omega);rw[e];refine .B ?_;exact⟨_,.ownN Y .nil⟩
 ·have e:domCut d lo hi=bJ d [(lo,hi)]:=(by simp[domCut];intro h2;omega);rw[e];refine .B ?_;refine .Z ?_;refine .D (m5 d [(lo,hi)] (by simpa using hd)) ?_;exact⟨_,.o Y Y Y (λ_=> .inl Y) (by simp) .nil⟩
theorem xZ (a b:List (Int×Int))(hl:a.length*8<=140737488355328):Spec Tryz.prog 140 false [dm a,dm b] [.val (.bool (decide (a=b)))]:=by
 refine Spec.body Tryz.func140 Y Y Y λw0 Z0=> ?_;refine .B ?_;refine T.cd Y (λh=> ?_) (λh=> ?_)
 ·refine .B ?_;exact⟨_,.v Y Y (by simp only[EB]at h;rw[EE];intro e;subst e;exact h Y) (λ_=>rfl) .nil⟩
 ·have hlen:a.length=b.length:=(by simp only[EB,ne_eq,Classical.not_not]at h;omega);refine .B ?_;refine T.K (T.ind (λi:Nat=>⟨[(0,.val false (dm a)),(1,.val false (dm b)),(12,.val true (.int .i64 (a.map cR).length)),(13,.val true (.int .i64 i))],[],0⟩) (λi=>i<=a.length/\a.take i=b.take i) (λi=>a.length-i) 0 (by simp) (λ_ _ h=>h) ?_);rintro i ⟨hi,ht⟩ ih;refine .B ?_;refine T.cd Y (λh1=> ?_) (λh1=> ?_)
  ·simp at h1;refine .B ?_;refine .F (r:=cR a[i]) (ax h1) ?_;refine .F (r:=cR b[i]) (ax (by omega)) ?_;refine J.se [a[i].1,a[i].2] [b[i].1,b[i].2] Y Y Y Y Y Y Y Y (by kernel_rfl) (by kernel_rfl) (by kernel_rfl) (by kernel_rfl) Y Y (.inr Y) ?_;refine .B ?_;refine T.cond Y (λh2=> ?_) (λh2=> ?_)
   ·refine .B ?_;exact⟨_,.v Y Y (by rw[EE];intro e;subst e;simp at h2) (λ_=>rfl) .nil⟩
   ·refine .B ?_;rw[ai h1 (by omega)];refine T.K (ih (i+1) ⟨by omega,ie ht h1 (by omega) ?_⟩ (by omega));simp at h2;exact Prod.ext h2.1 h2.2
  ·simp at h1;refine .B ?_;refine⟨_,.v Y Y ?_ (λ_=>rfl) .nil⟩;rw[EY (by omega),EY (by omega)]at ht;simp[ht]
theorem eL (a b:List (Int×Int))(hl:a.length*8<=140737488355328):Spec Tryz.prog 106 false [dm a,dm b] [.val (.bool (decide (a=b)))]:=by
 refine Spec.body Tryz.func106 Y Y Y λw0 Z0=> ?_;refine .B ?_;refine .D (xZ a b hl) ?_;exact r1
def ofD (d:List (Int×Int)):Int×Int:=(av d,aP d)
theorem mC (d:List (Int×Int))(hd:d.length*8<=140737488355328):Spec Tryz.prog 198 false [dm d] [.val (.agg [.int .i64 (av d),.int .i64 (aP d)])]:=by
 refine Spec.body Tryz.func198 Y Y Y λw0 Z0=> ?_;refine .B ?_;refine .L ?_;refine .B ?_;refine .D (ly d) ?_;refine .D (rS d hd) ?_;refine .X ?_;exact⟨_,.c Y Y Y Y (λ_=>rfl) .nil⟩
def gC (a b:Int)(da db:List (Int×Int)):Bool:=decide (a=b)||(decide (0<da.length)&&decide (0<db.length)&&decide (av da=aP da)&&decide (ofD da=ofD db))
theorem xR (d:List (List (Int×Int)))(a b:Int)(da db:List (Int×Int))(ha:0<=a)(hb:0<=b)(hda:d[a.toNat]? =some da)(hdb:d[b.toNat]? =some db)(hla:da.length*8<=140737488355328)(hlb:db.length*8<=140737488355328):
  Spec Tryz.prog 231 false [ao d,.int .i64 a,.int .i64 b] [.val (.bool (gC a b da db))]:=by
 refine Spec.body Tryz.func231 Y Y Y λw0 Z0=> ?_;have ra:(d.map cD)[a.toNat]? =some (cD da):=(by simp[hda]);have rb:(d.map cD)[b.toNat]? =some (cD db):=(by simp[hdb]);refine .B ?_;refine J.i Y Y Y Y Y Y Y Y Y (r:=cD da) ha ra Y ?_;refine .B ?_;refine .D (mC da hla) ?_;refine .L ?_;refine .X ?_;refine J.g Y Y Y (λh1=> ?_) (λh1=> ?_)
 ·refine .B ?_;exact⟨_,.v Y Y (by simp[gC,show a=b from h1]) (λ_=>rfl) .nil⟩
 ·refine .B ?_;refine J.i Y Y Y Y Y Y Y Y Y (r:=cD da) ha ra Y ?_;refine .B ?_;refine J.g Y Y Y (λh2=> ?_) (λh2=> ?_)
  ·refine .B ?_;refine J.i Y Y Y Y Y Y Y Y Y (r:=cD db) hb rb Y ?_;refine .B ?_;refine J.g Y Y Y (λh3=> ?_) (λh3=> ?_)
   ·refine .B ?_;refine J.g Y Y Y (λh4=> ?_) (λh4=> ?_)
    ·refine .B ?_;refine J.i Y Y Y Y Y Y Y Y Y (r:=cD db) hb rb Y ?_;refine .B ?_;refine .D (mC db hlb) ?_;refine J.se [av da,aP da] [av db,aP db] Y Y Y Y Y Y Y Y (by kernel_rfl) (by kernel_rfl) (by kernel_rfl) (by kernel_rfl) Y Y (.inl Y) ?_;refine .B ?_;refine⟨_,.v Y Y ?_ (λ_=>rfl) .nil⟩;have h2:0<da.length:=(by simpa using h2);have h3:0<db.length:=(by simpa using h3);have h1: ¬a=b:=h1;have h4:av da=aP da:=h4;simp[gC,h1,h2,h3,h4,ofD]
    ·refine .B ?_;exact⟨_,.v Y Y (by simp[gC,show¬a=b from h1,show¬av da=aP da from h4]) (λ_=>rfl) .nil⟩
   ·refine .B ?_;refine⟨_,.v Y Y ?_ (λ_=>rfl) .nil⟩;have h3: ¬0<db.length:=(by simpa using h3);simp[gC,show¬a=b from h1,h3]
  ·refine .B ?_;refine⟨_,.v Y Y ?_ (λ_=>rfl) .nil⟩;have h2: ¬0<da.length:=(by simpa using h2);simp[gC,show¬a=b from h1,h2]
def dJ (p:Nat->Bool)(h:Nat):Nat:=((List.range h).find? λk=> !p k).getD h
theorem jX {p:Nat->Bool}{h k:Nat}(hk:k<h)(ha: ∀j,j<k->p j=true)(hn:p k=false):dJ p h=k:=by
 unfold dJ;have:(List.range h).find? (λk=> !p k)=some k:=by
  rw[GD];exact⟨by simp[hn],by simpa using hk,λj hj=>by simp[ha j hj]⟩
 rw[this];rfl
theorem ln {p:Nat->Bool}{h:Nat}(ha: ∀j,j<h->p j=true):dJ p h=h:=by
 unfold dJ;have:(List.range h).find? (λk=> !p k)=none:=by
  rw[GV];intro x hx;simp[ha x (ES.1 hx)]
 rw[this];rfl
def halfOf (c:Con):Nat:=c.vars.length / 2
def varAt (c:Con)(k:Nat):Int:=c.vars.getD k 0
def domAt (d:List (List (Int×Int)))(v:Int):List (Int×Int):=d.getD v.toNat []
def bG (d:List (List (Int×Int)))(c:Con):Prop:=c.vars.length*8<=140737488355328/\∀v∈c.vars,0<=v/\v.toNat<d.length
def ez (d:List (List (Int×Int)))(c:Con)(k:Nat):Bool:=gC (varAt c k) (varAt c (halfOf c+k)) (domAt d (varAt c k)) (domAt d (varAt c (halfOf c+k)))
def placeO (d:List (List (Int×Int)))(c:Con):Nat:=dJ (ez d c) (halfOf c)
theorem cF {c:Con}{k:Nat}(h:k<c.vars.length):(c.vars.map cI)[((k:Nat):Int).toNat]? =some (cI (varAt c k)):=by
 simp[varAt,h]
theorem az {c:Con}{k:Nat}(h:k<c.vars.length):varAt c k∈c.vars:=by
 simp[varAt,h]
theorem aj {d:List (List (Int×Int))}{v:Int}(h:v.toNat<d.length):d[v.toNat]? =some (domAt d v):=by
 simp[domAt,h]
theorem ac {d:List (List (Int×Int))}{v:Int}(h:v.toNat<d.length):domAt d v∈d:=by
 simp[domAt,h]
theorem eF (c:Con):halfOf c+halfOf c<=c.vars.length:=by unfold halfOf;omega
theorem xt (d:List (List (Int×Int)))(c:Con)(hc:bG d c)(hd: ∀x∈d,x.length*8<=140737488355328):Spec Tryz.prog 196 false [ao d,.agg (cC c)] [.val (.int .i64 (placeO d c))]:=by
 refine Spec.body Tryz.func196 Y Y Y λw0 Z0=> ?_;obtain⟨hc1,hc2⟩:=hc;have hh:=eF c;refine .B ?_;have e1:IntKind.i64.wrap (((c.vars.map cI).length:Int).tdiv 2)=(halfOf c:Int):=by
  rw[EB,GL (by omega),af (by omega) (by omega)];simp[halfOf]
 rw[e1];refine T.K (T.ind (λk:Nat=>⟨[(0,.val false (ao d)),(3,.optr 0 0 0 0),(5,.val true (.int .i64 (halfOf c))),(11,.val true (.int .i64 (halfOf c))),(12,.val true (.int .i64 k))],[(0,some (.box false (cC c)))],1⟩)
  (λk=>k<=halfOf c/\∀j,j<k->ez d c j=true) (λk=>halfOf c-k) 0 (by simp) (λ_ _ h=>h) ?_)
 rintro k ⟨hk,hp⟩ ih;refine .B ?_;refine T.cd Y (λh1=> ?_) (λh1=> ?_)
 ·have h1:k<halfOf c:=(by simpa using h1);have hv1:=hc2 _ (az (c:=c) (k:=k) (by omega));have hv2:=hc2 _ (az (c:=c) (k:=halfOf c+k) (by omega));refine .B ?_;refine .F (r:=cI (varAt c k)) (cF (by omega)) ?_;rw[show IntKind.i64.wrap ((halfOf c:Int)+(k:Int))=((halfOf c+k:Nat):Int)by rw[af (by omega) (by omega)];omega];refine .F (r:=cI (varAt c (halfOf c+k))) (cF (by omega)) ?_;refine J.cc Y Y Y Y Y (xR d (varAt c k) (varAt c (halfOf c+k)) _ _ hv1.1 hv2.1 (aj hv1.2) (aj hv2.2) (hd _ (ac hv1.2)) (hd _ (ac hv2.2))) Y Y ?_;refine .B ?_;refine T.cond Y (λh2=> ?_) (λh2=> ?_)
  ·have h2:ez d c k=false:=(by simpa[ez]using h2);refine .B ?_;exact⟨_,.v Y Y (by rw[placeO,jX h1 hp h2]) (λ_=>rfl) .nil⟩
  ·have h2:ez d c k=true:=(by simpa[ez]using h2);refine .B ?_;rw[ai (l:=halfOf c) h1 (by omega)];refine T.K (ih (k+1) ⟨by omega,λj hj=> ?_⟩ (by omega));by_cases e:j=k;·rw[e];exact h2
   ·exact hp j (by omega)
 ·have h1: ¬k<halfOf c:=(by simpa using h1);refine .B ?_;exact⟨_,.v Y Y (by rw[placeO,ln λj hj=>hp j (by omega)]) (λ_=>rfl) .nil⟩
def nh (a b:Int)(da db:List (Int×Int)):Bool:=decide (a=b)||(decide ((vals da).length=1)&&decide (vals da=vals db))
def jB (d:List (List (Int×Int)))(c:Con)(k:Nat):Bool:=nh (varAt c k) (varAt c (halfOf c+k)) (domAt d (varAt c k)) (domAt d (varAt c (halfOf c+k)))
def placeR (d:List (List (Int×Int)))(c:Con):Nat:=dJ (jB d c) (halfOf c)
theorem vh (d:List (List (Int×Int)))(c:Con)(hc:bG d c)(hd: ∀x∈d,DomB x):Spec Tryz.prog 213 false [ao d,.agg (cC c)] [.val (.int .i64 (placeR d c))]:=by
 refine Spec.body Tryz.func213 Y Y Y λw0 Z0=> ?_;obtain⟨hc1,hc2⟩:=hc;have hh:=eF c;refine .B ?_;have e1:IntKind.i64.wrap (((c.vars.map cI).length:Int).tdiv 2)=(halfOf c:Int):=by
  rw[EB,GL (by omega),af (by omega) (by omega)];simp[halfOf]
 rw[e1];refine T.K (T.ind (λk:Nat=>⟨[(0,.val false (ao d)),(3,.optr 0 0 0 0),(5,.val true (.int .i64 (halfOf c))),(6,.val true (.int .i64 k))],[(0,some (.box false (cC c)))],1⟩)
  (λk=>k<=halfOf c/\∀j,j<k->jB d c j=true) (λk=>halfOf c-k) 0 (by simp) (λ_ _ h=>h) ?_)
 rintro k ⟨hk,hp⟩ ih;refine .B ?_;refine T.cd Y (λh1=> ?_) (λh1=> ?_)
 ·have h1:k<halfOf c:=(by simpa using h1);have hv1:=hc2 _ (az (c:=c) (k:=k) (by omega));have hv2:=hc2 _ (az (c:=c) (k:=halfOf c+k) (by omega));obtain⟨ha1,ha2,ha3⟩:=hd _ (ac hv1.2);obtain⟨hb1,hb2,hb3⟩:=hd _ (ac hv2.2);have hpk:jB d c k=nh (varAt c k) (varAt c (halfOf c+k)) (domAt d (varAt c k)) (domAt d (varAt c (halfOf c+k))):=rfl;have ra:(d.map cD)[(varAt c k).toNat]? =some (cD (domAt d (varAt c k))):=(by simp[aj hv1.2]);have rb:(d.map cD)[(varAt c (halfOf c+k)).toNat]? =some (cD (domAt d (varAt c (halfOf c+k)))):=(by simp[aj hv2.2]);refine .B ?_;refine .F (r:=cI (varAt c k)) (cF (by omega)) ?_;rw[show IntKind.i64.wrap ((halfOf c:Int)+(k:Int))=((halfOf c+k:Nat):Int)by rw[af (by omega) (by omega)];omega];refine .F (r:=cI (varAt c (halfOf c+k))) (cF (by omega)) ?_;refine J.i Y Y Y Y Y Y Y Y Y (r:=cD (domAt d (varAt c k))) hv1.1 ra Y ?_;refine .B ?_;refine .D (bB (domAt d (varAt c k)) ha1 (by omega) ha3).frz ?_;refine J.i Y Y Y Y Y Y Y Y Y (r:=cD (domAt d (varAt c (halfOf c+k)))) hv2.1 rb Y ?_;refine .B ?_;refine .D (bB (domAt d (varAt c (halfOf c+k))) hb1 (by omega) hb3).frz ?_;unfold nh at hpk;generalize vals (domAt d (varAt c k))=x at*;generalize vals (domAt d (varAt c (halfOf c+k)))=y at*;refine J.g Y Y Y (λh2=> ?_) (λh2=> ?_)
  ·have h2: ¬varAt c k=varAt c (halfOf c+k):=h2;refine .B ?_;refine J.g Y Y Y (λh3=> ?_) (λh3=> ?_)
   ·have h3:x.length=1:=(by simp only[EB]at h3;omega);refine .B ?_;refine .D (du x y (by omega)) ?_;refine T.cond Y (λh4=> ?_) (λh4=> ?_)
    ·have hpf:jB d c k=false:=(by rw[hpk];simp[h2,h3];simpa using h4);refine .B ?_;exact⟨_,.v Y Y (by rw[placeR,jX h1 hp hpf]) (λ_=>rfl) .nil⟩
    ·have hpt:jB d c k=true:=(by rw[hpk];simp[h2,h3];simpa using h4);refine .B ?_;rw[ai (l:=halfOf c) h1 (by omega)];refine T.K (ih (k+1) ⟨by omega,λj hj=> ?_⟩ (by omega));by_cases e:j=k;·rw[e];exact hpt
     ·exact hp j (by omega)
   ·have h3: ¬x.length=1:=(by simp only[EB]at h3;omega);refine .B ?_;refine T.ct Y ?_;have hpf:jB d c k=false:=(by rw[hpk];simp[h2,h3]);refine .B ?_;exact⟨_,.v Y Y (by rw[placeR,jX h1 hp hpf]) (λ_=>rfl) .nil⟩
  ·have h2:varAt c k=varAt c (halfOf c+k):=Classical.not_not.1 h2;have hpt:jB d c k=true:=(by rw[hpk];simp[h2]);refine .B ?_;refine T.cf Y ?_;refine .B ?_;rw[ai (l:=halfOf c) h1 (by omega)];refine T.K (ih (k+1) ⟨by omega,λj hj=> ?_⟩ (by omega));by_cases e:j=k;·rw[e];exact hpt
   ·exact hp j (by omega)
 ·have h1: ¬k<halfOf c:=(by simpa using h1);refine .B ?_;exact⟨_,.v Y Y (by rw[placeR,ln λj hj=>hp j (by omega)]) (λ_=>rfl) .nil⟩
abbrev aa:=List (List (Int×Int))
def b9 {α β:Type}(step:α->β ⊕ α):Nat->α->Option β
 |0,_=>none
 |n+1,x=>match step x with
  | .inl b=>some b
  | .inr y=>b9 step n y
theorem aQ {α β:Type}{step:α->β ⊕ α}{n:Nat}{x:α}{b r:β}(h:b9 step n x=some r)(e:step x= .inl b):b=r:=by
 cases n with
 |zero=>cases h
 |succ n=>simp only[b9,e,E9]at h;exact h
theorem fH {α β:Type}{step:α->β ⊕ α}{n:Nat}{x y:α}{r:β}(h:b9 step n x=some r)(e:step x= .inr y): ∃m,m<n/\b9 step m y=some r:=by
 cases n with
 |zero=>cases h
 |succ n=>simp only[b9,e]at h;exact⟨n,Fd n,h⟩
def dG (c:Con)(out:aa):Option aa ⊕ aa:=
 if placeO out c=halfOf c then .inl (some out)else
 let a:=varAt c (placeO out c);let b:=varAt c (halfOf c+placeO out c);let x:=domCut (domAt out a) (-1048576) (aP (domAt out b));let y:=domCut (domAt out b) (av (domAt out a)) 1048576
 if x=[]∨y=[]then .inl none else
 if x=domAt out a/\y=domAt out b then .inl (some out)else .inr ((out.set a.toNat x).set b.toNat y)
def jr (c:Con)(out:aa):Option aa ⊕ aa:=
 if placeR out c=halfOf c then .inl (some out)else
 let a:=varAt c (placeR out c);let b:=varAt c (halfOf c+placeR out c);let low:=(dq (domAt out a)).1;let high:=(dq (domAt out b)).2.1;let next:=(out.set a.toNat (cutR (domAt out a) low high)).set b.toNat (cutR (domAt out b) low (max low 1048576))
 if []∈next then .inl none else
 if next=out then .inl (some out)else .inr next
def aJ (R:Option aa):List RV:=[.own 54 1 ((R.getD []).map cD),.val (.bool R.isSome)]
theorem l4 (r:Int×Int): ∀a,(bJ a [r]).length<=a.length
 | []=>by simp[oL]
 |x::xs=>by
  have:=l4 r xs;rw[iO];simp only[EZ,El];have h2:(bJ (x::xs) []).length=0:=(by simp[oK]);split<;>split<;>simp only[El,Fg]<;>omega
theorem kP (d:List (Int×Int))(lo hi:Int):(domCut d lo hi).length<=d.length:=by
 unfold domCut;split;·simp
 ·exact l4 _ _
theorem e8 (p:Nat->Bool)(h:Nat):dJ p h<=h:=by
 unfold dJ;cases hf:(List.range h).find? (λk=> !p k)with
 |none=>simp
 |some k=>
  have:=ES.1 (Hv hf);simp;omega
def jQ (d:aa):Prop:=d.length*24<=140737488355328/\∀x∈d,(x.length+1)*16<=140737488355328
theorem jQ.set {d:aa}(h:jQ d)(i:Nat){x:List (Int×Int)}(hx:(x.length+1)*16<=140737488355328):jQ (d.set i x):=by
 refine⟨by simpa using h.1,λy hy=> ?_⟩;rcases EV hy with hy|rfl;·exact h.2 y hy
 ·exact hx
theorem bG.set {d:aa}{c:Con}(h:bG d c)(i:Nat)(x:List (Int×Int)):bG (d.set i x) c:=by
 refine⟨h.1,λv hv=> ?_⟩;rw[FA];exact h.2 v hv
theorem pI (d:aa)(c:Con)(hc:bG d c)(hd:jQ d)(R:Option aa)(N:Nat)(hR:if []∈d then R=none else b9 (dG c) N d=some R):Spec Tryz.prog 138 false [ao d,.agg (cC c)] (aJ R):=by
 refine Spec.body Tryz.func138 Y Y Y λw0 Z0=> ?_;have hh:=eF c;obtain⟨hd1,hd2⟩:=hd;refine .B ?_;refine T.sub (Rel.own0 (s:=6) 54 1 Y) ?_;refine T.K (T.listI d (λpre=>[]∉pre) (λn pre post=>⟨[(0,.val false (ao d)),(3,.optr 0 0 0 0),(6,.ref 1),(15,.val false (ao d)),(16,.val true (.int .i64 (d.map cD).length)),(17,.val true (.int .i64 n))],[(0,some (.box false (cC c))),(1,some (.sl 54 1 true (pre.map cD)))],2⟩) (λ_ _ h=>h) (by simp) ?_ ?_)
 ·rintro n pre x post h hn hi ih;have hlt:=bW h hn;have hxl:=hd2 x (by rw[h];simp);refine .B ?_;refine T.ct2 Y (bV h hn) ?_;refine .B ?_;refine .F (r:=cD x) (aM h hn) ?_;refine T.cd Y (λh1=> ?_) (λh1=> ?_)
  ·have hx:x=[]:=(by simp at h1;exact h1);have:R=none:=(by rw[E6 (by rw[h,hx];simp)]at hR;exact hR);subst this;refine .B ?_;exact⟨_,.ownN Y (.v Y Y Y (λ_=>rfl) .nil)⟩
  ·have hx:x≠[]:=λe=>h1 (by rw[e];rfl);refine .B ?_;refine .D (bT x (by omega)).frz ?_;refine .Z ?_;refine J.aD Y Y Y Y Y Y Y Y Y Y Y Y Y Y Y Y Y Y Y (by omega) ?_;refine .B ?_;rw[ai hlt (by omega)];exact T.K (ih (by simp[hi,Ne.symm hx]))
 ·intro hi;rw[E4 hi]at hR;refine .B ?_;refine T.cf2 Y bj ?_;refine .B ?_;have e1:IntKind.i64.wrap (((c.vars.map cI).length:Int).tdiv 2)=(halfOf c:Int):=by
   have:=hc.1;rw[EB,GL (by omega),af (by omega) (by omega)];simp[halfOf]
  rw[e1];refine T.K (T.ind (λ(s:Nat×aa)=>⟨[(3,.optr 0 0 0 0),(6,.ref 1),(9,.val true (.int .i64 (halfOf c)))],[(0,some (.box false (cC c))),(1,some (.sl 54 1 true (s.2.map cD)))],2⟩)
   (λs=>b9 (dG c) s.1 s.2=some R/\bG s.2 c/\jQ s.2) (λs=>s.1) (N,d) ⟨hR,hc,hd1,hd2⟩ (λ_ _ h=>h) ?_)
  rintro⟨m,out⟩ ⟨hR,hc,hd⟩ ih;simp only at hR hc hd ih;dsimp only;have hcv:=hc.1;have hlen8: ∀x∈out,x.length*8<=140737488355328:=λx hx=>(by have:=hd.2 x hx;omega);refine .B ?_;refine .D (xt out c hc hlen8) ?_;have hpl:placeO out c<=halfOf c:=e8 _ _;have hst:dG c out=dG c out:=rfl
  conv at hst=>rhs;unfold dG
  generalize placeO out c=k at*;refine T.cd Y (λh1=> ?_) (λh1=> ?_)
  ·have h1:k=halfOf c:=(by omega);rw[E6 h1]at hst;obtain rfl:=aQ hR hst;refine .B ?_;exact⟨_,.o Y Y Y (λ_=> .inl Y) (by simp) (.v rfl rfl rfl (λ_=>rfl) .nil)⟩
  ·have h1: ¬k=halfOf c:=(by omega);rw[E4 h1]at hst;have hv1:=hc.2 _ (az (c:=c) (k:=k) (by omega));have hv2:=hc.2 _ (az (c:=c) (k:=halfOf c+k) (by omega));have hm1:=hd.2 _ (ac hv1.2);have hm2:=hd.2 _ (ac hv2.2);have ra:(out.map cD)[(varAt c k).toNat]? =some (cD (domAt out (varAt c k))):=(by simp[aj hv1.2]);have rb:(out.map cD)[(varAt c (halfOf c+k)).toNat]? =some (cD (domAt out (varAt c (halfOf c+k)))):=(by simp[aj hv2.2]);have la:(varAt c k).toNat<(out.map cD).length:=(by simpa using hv1.2);have lb:(varAt c (halfOf c+k)).toNat<(out.map cD).length:=(by simpa using hv2.2);have ka:=cF (c:=c) (k:=k) (by omega);have kb:=cF (c:=c) (k:=halfOf c+k) (by omega);simp only at hst;generalize varAt c k=a at*;generalize varAt c (halfOf c+k)=b at*;generalize domAt out a=da at*;generalize domAt out b=db at*;refine .B ?_;refine .F (r:=cI a) ka ?_;rw[show IntKind.i64.wrap ((halfOf c:Int)+(k:Int))=((halfOf c+k:Nat):Int)by rw[af (by omega) (by omega)];omega];refine .F (r:=cI b) kb ?_;refine J.io Y Y Y Y Y Y Y Y Y hv1.1 la Y ?_;refine J.lo Y Y Y Y Y Y (r:=cD da) ra Y ?_;refine .B ?_;refine J.io Y Y Y Y Y Y Y Y Y hv2.1 lb Y ?_;refine J.lo Y Y Y Y Y Y (r:=cD db) rb Y ?_;refine .B ?_;refine .D (mC db (by omega)) ?_;refine .D (gS da (-1048576) (aP db) (by omega)).frz ?_;refine J.io Y Y Y Y Y Y Y Y Y hv2.1 lb Y ?_;refine J.lo Y Y Y Y Y Y (r:=cD db) rb Y ?_;refine .B ?_;refine J.io Y Y Y Y Y Y Y Y Y hv1.1 la Y ?_;refine J.lo Y Y Y Y Y Y (r:=cD da) ra Y ?_;refine .B ?_;refine .D (mC da (by omega)) ?_;refine .D (gS db (av da) 1048576 (by omega)).frz ?_;have hxl:=kP da (-1048576) (aP db);have hyl:=kP db (av da) 1048576;generalize domCut da (-1048576) (aP db)=x at*;generalize domCut db (av da) 1048576=y at*;have hnone:x=[]∨y=[]->R=none:=λh=>(by rw[E6 h]at hst;exact(aQ hR hst).symm);refine J.g Y Y Y (λh2=> ?_) (λh2=> ?_)
   ·have h2:x=[]:=(by simpa using h2);have:=hnone (.inl h2);subst this;refine .B ?_;refine T.ct Y ?_;refine .B ?_;exact⟨_,.ownN Y (.v Y Y Y (λ_=>rfl) .nil)⟩
   ·have h2: ¬x=[]:=(by simpa using h2);refine .B ?_;refine T.cd Y (λh3=> ?_) (λh3=> ?_)
    ·have h3:y=[]:=(by simpa using h3);have:=hnone (.inr h3);subst this;refine .B ?_;exact⟨_,.ownN Y (.v Y Y Y (λ_=>rfl) .nil)⟩
    ·have h3: ¬y=[]:=(by simpa using h3);rw[E4 (by simp[h2,h3])]at hst;refine .B ?_;refine J.io Y Y Y Y Y Y Y Y Y hv1.1 la Y ?_;refine J.lo Y Y Y Y Y Y (r:=cD da) ra Y ?_;refine .B ?_;refine .D (eL x da (by omega)) ?_;refine J.g Y Y Y (λh4=> ?_) (λh4=> ?_)
     ·have h4:x=da:=h4;refine .B ?_;refine J.io Y Y Y Y Y Y Y Y Y hv2.1 lb Y ?_;refine J.lo Y Y Y Y Y Y (r:=cD db) rb Y ?_;refine .B ?_;refine .D (eL y db (by omega)) ?_;refine T.cd Y (λh5=> ?_) (λh5=> ?_)
      ·rw[E6 ⟨h4,h5⟩]at hst;obtain rfl:=aQ hR hst;refine .B ?_;exact⟨_,.o Y Y Y (λ_=> .inl Y) (by simp) (.v rfl rfl rfl (λ_=>rfl) .nil)⟩
      ·rw[E4 (λe=>h5 e.2)]at hst;obtain⟨m',hm',hR'⟩:=fH hR hst;refine .B ?_;refine J.io Y Y Y Y Y Y Y Y Y hv1.1 la Y ?_;refine J.w1 Y Y Y Y Y Y Y Y Y Y Y (λ_=>rfl) (by simpa using la) ?_;refine J.io Y Y Y Y Y Y Y Y Y hv2.1 (by simpa using lb) Y ?_;refine J.w1 Y Y Y Y Y Y Y Y Y Y Y (λ_=>rfl) (by simpa using lb) ?_;refine .B ?_;refine T.K (ih (m',(out.set a.toNat x).set b.toNat y) ⟨hR',(hc.set _ _).set _ _,(hd.set _ (by omega)).set _ (by omega)⟩ hm')
     ·have h4: ¬x=da:=h4;rw[E4 (λe=>h4 e.1)]at hst;obtain⟨m',hm',hR'⟩:=fH hR hst;refine .B ?_;refine T.cf Y ?_;refine .B ?_;refine J.io Y Y Y Y Y Y Y Y Y hv1.1 la Y ?_;refine J.w1 Y Y Y Y Y Y Y Y Y Y Y (λ_=>rfl) (by simpa using la) ?_;refine J.io Y Y Y Y Y Y Y Y Y hv2.1 (by simpa using lb) Y ?_;refine J.w1 Y Y Y Y Y Y Y Y Y Y Y (λ_=>rfl) (by simpa using lb) ?_;refine .B ?_;refine T.K (ih (m',(out.set a.toNat x).set b.toNat y) ⟨hR',(hc.set _ _).set _ _,(hd.set _ (by omega)).set _ (by omega)⟩ hm')
end Go.Proofs.YtopcjbahjjhdmaaGreat
namespace Go.Proofs.YtopcjbahjjhdmaaGreat
open Go Go.Shelf Go.RowKit
def m7:Go.Shelf.Ren:=⟨fun|20=>87|n=>n,fun|22=>24|3=>3|4=>4|0=>0|n=>n,fun|n=>n⟩
theorem l6:Go.Proofs.Lays2.n20 Tryz.prog m7:= {
 mixed:=by kernel_rfl
 f20:=Tryz.func87.trans (congrArg some (by kernel_rfl))
 t0:=Tryz.underlying0
 a0:=Tryz.isAgg0
 z0:=Tryz.sizeOf0
 v0:=Tryz.zeroValue0
 t3:=Tryz.underlying3
 a3:=Tryz.isAgg3
 z3:=Tryz.sizeOf3
 v3:=Tryz.zeroValue3
 t4:=Tryz.underlying4
 a4:=Tryz.isAgg4
 z4:=Tryz.sizeOf4
 v4:=Tryz.zeroValue4
 t22:=Tryz.underlying24
 a22:=Tryz.isAgg24
 z22:=Tryz.sizeOf24
 v22:=Tryz.zeroValue24
 i3:=by kernel_rfl }
open Go.RowKit Go.Lib Go.Sort in
theorem jn (blk off cap:Nat)(zs:List Int)(w:World)(hH:Holds (Value.int .i64) w blk off zs.toArray)(hsz:zs.length<=9223372036854775807)(hcap:zs.length<=cap):
  Calls Tryz.prog 87 #[.slice (some ⟨blk,off,none⟩) zs.length cap] w λe w'=>e= .returned (.slice (some ⟨blk,off,none⟩) (Lib.compact zs).length cap)/\∃q,w'=putRow (Value.int .i64) (Sort.ahead w q) blk off (Lib.compact zs++List.replicate (zs.length-(Lib.compact zs).length) 0).toArray:=Any.slices_Compact_int l6 blk off cap zs w hH hsz hcap
open Go.RowKit Go.Lib Go.Sort in
theorem fT (a:Option Addr)(cap:Nat)(w:World):
  Calls Tryz.prog 87 #[.slice a 0 cap] w λe w'=>e= .returned (.slice a 0 cap)/\w'=w:=Any.slices_Compact_int_empty l6 a cap w
end Go.Proofs.YtopcjbahjjhdmaaGreat
namespace Go.Proofs.YtopcjbahjjhdmaaGreat
open Go Go.Shelf Go.RowKit
def tb:Go.Shelf.Ren:=⟨fun|189=>86|125=>124|257=>123|128=>165|129=>166|294=>156|295=>157|296=>158|297=>159|298=>160|299=>161|216=>162|300=>163|301=>164|328=>215|329=>216|330=>217|331=>218|332=>219|215=>167|343=>239|n=>n,fun|28=>24|3=>3|46=>146|0=>0|51=>173|53=>159|4=>4|183=>166|182=>165|131=>115|5=>5|9=>9|218=>204|222=>208|228=>221|229=>222|n=>n,fun|n=>n⟩
theorem uF:Go.Proofs.Lays.n189 Tryz.prog tb:= {
 mixed:=by kernel_rfl
 f125:=Tryz.func124.trans (congrArg some (by kernel_rfl))
 f128:=Tryz.func165.trans (congrArg some (by kernel_rfl))
 f129:=Tryz.func166.trans (congrArg some (by kernel_rfl))
 f189:=Tryz.func86.trans (congrArg some (by kernel_rfl))
 f215:=Tryz.func167.trans (congrArg some (by kernel_rfl))
 f216:=Tryz.func162.trans (congrArg some (by kernel_rfl))
 f257:=Tryz.func123.trans (congrArg some (by kernel_rfl))
 f294:=Tryz.func156.trans (congrArg some (by kernel_rfl))
 f295:=Tryz.func157.trans (congrArg some (by kernel_rfl))
 f296:=Tryz.func158.trans (congrArg some (by kernel_rfl))
 f297:=Tryz.func159.trans (congrArg some (by kernel_rfl))
 f298:=Tryz.func160.trans (congrArg some (by kernel_rfl))
 f299:=Tryz.func161.trans (congrArg some (by kernel_rfl))
 f300:=Tryz.func163.trans (congrArg some (by kernel_rfl))
 f301:=Tryz.func164.trans (congrArg some (by kernel_rfl))
 f328:=Tryz.func215.trans (congrArg some (by kernel_rfl))
 f329:=Tryz.func216.trans (congrArg some (by kernel_rfl))
 f330:=Tryz.func217.trans (congrArg some (by kernel_rfl))
 f331:=Tryz.func218.trans (congrArg some (by kernel_rfl))
 f332:=Tryz.func219.trans (congrArg some (by kernel_rfl))
 f343:=Tryz.func239.trans (congrArg some (by kernel_rfl))
 t0:=Tryz.underlying0
 a0:=Tryz.isAgg0
 z0:=Tryz.sizeOf0
 v0:=Tryz.zeroValue0
 t3:=Tryz.underlying3
 a3:=Tryz.isAgg3
 z3:=Tryz.sizeOf3
 v3:=Tryz.zeroValue3
 t4:=Tryz.underlying4
 a4:=Tryz.isAgg4
 z4:=Tryz.sizeOf4
 v4:=Tryz.zeroValue4
 t5:=Tryz.underlying5
 a5:=Tryz.isAgg5
 z5:=Tryz.sizeOf5
 v5:=Tryz.zeroValue5
 t9:=Tryz.underlying9
 a9:=Tryz.isAgg9
 z9:=Tryz.sizeOf9
 v9:=Tryz.zeroValue9
 t28:=Tryz.underlying24
 a28:=Tryz.isAgg24
 z28:=Tryz.sizeOf24
 v28:=Tryz.zeroValue24
 t46:=Tryz.underlying146
 a46:=Tryz.isAgg146
 z46:=Tryz.sizeOf146
 v46:=Tryz.zeroValue146
 t51:=Tryz.underlying173
 a51:=Tryz.isAgg173
 z51:=Tryz.sizeOf173
 v51:=Tryz.zeroValue173
 t53:=Tryz.underlying159
 a53:=Tryz.isAgg159
 z53:=Tryz.sizeOf159
 v53:=Tryz.zeroValue159
 t131:=Tryz.underlying115
 a131:=Tryz.isAgg115
 z131:=Tryz.sizeOf115
 v131:=Tryz.zeroValue115
 t182:=Tryz.underlying165
 a182:=Tryz.isAgg165
 z182:=Tryz.sizeOf165
 v182:=Tryz.zeroValue165
 t183:=Tryz.underlying166
 a183:=Tryz.isAgg166
 z183:=Tryz.sizeOf166
 v183:=Tryz.zeroValue166
 t218:=Tryz.underlying204
 a218:=Tryz.isAgg204
 z218:=Tryz.sizeOf204
 v218:=Tryz.zeroValue204
 t222:=Tryz.underlying208
 a222:=Tryz.isAgg208
 z222:=Tryz.sizeOf208
 v222:=Tryz.zeroValue208
 t228:=Tryz.underlying221
 a228:=Tryz.isAgg221
 z228:=Tryz.sizeOf221
 v228:=Tryz.zeroValue221
 t229:=Tryz.underlying222
 a229:=Tryz.isAgg222
 z229:=Tryz.sizeOf222
 v229:=Tryz.zeroValue222 }
open Go.Sort Go.RowKit in
theorem w7 (blk off cap:Nat)(zs:List Int)(w:World)(hH:Holds (Value.int .i64) w blk off zs.toArray)(hblk:blk<w.heap.size)(hsz:zs.length<4611686018427387904):
  Calls Tryz.prog 86 #[.slice (some ⟨blk,off,none⟩) zs.length cap] w λe w'=>
   e= .returned (.tuple #[])/\∃n os,w'=grow (putRow (Value.int .i64) (Sort.ahead w n) blk off (zs.mergeSort λx y=>decide (x<=y)).toArray) os:=Any.slices_Sort_int uF blk off cap zs w hH hblk hsz
open Go.RowKit Go.Sort in
theorem ou (p:Option Addr)(cap:Nat)(w:World):
  Calls Tryz.prog 86 #[.slice p 0 cap] w λe w'=>e= .returned (.tuple #[])/\w'=w:=Any.slices_Sort_int_none uF p cap w
end Go.Proofs.YtopcjbahjjhdmaaGreat
namespace Go.Proofs.YtopcjbahjjhdmaaGreat
open Go Go.RowKit Go.Shelf
set_option linter.unusedVariables false
set_option linter.unusedSimpArgs false
attribute [local go_sem] Oper.semAt_some
def KpE (n₀:Nat)(W W':World):Prop:=Below n₀ W W'/\∀(b:Nat) (c:Array Value) (e:TypeId) (fr:Nat×Nat),W.heap[b]? =some (.cells c e fr)->e≠3->e≠24->W'.heap[b]? =some (.cells c e fr)
theorem KpE.refl (n₀:Nat)(W:World):KpE n₀ W W:=⟨Below.refl _ _,λ_ _ _ _ h _ _=>h⟩
theorem KpE.trans {n₀:Nat}{A B C:World}(h:KpE n₀ A B)(k:KpE n₀ B C):KpE n₀ A C:=⟨h.1.trans k.1,λb c e fr hb h1 h2=>k.2 b c e fr (h.2 b c e fr hb h1 h2) h1 h2⟩
def wR (P:Program)(g:FuncId)(lb:Array Value)(n₀:Nat)(w:World)(xs:List Int):Prop:= ∀(F:Fence) (n:Nat),F.fn g->F.round=none->1<=n->SeqStopsK F n P g lb (λx:Int=> #[Value.int .i64 x]) (KpE n₀) (λys=>ys=xs) (λ_=>True) xs.length w
theorem A3 {w:World}{Z:Nat->Prop}{v:Value}{l:List Int}(h:Rep w Z v (aq l)): ∃(p:Option Addr) (cap:Nat),v= .slice p l.length cap/\(l≠[]->∃b off,p=some ⟨b,off,none⟩/\b<w.heap.size/\∀j (hj:j<l.length),w.cell? ⟨b,off+j,none⟩=some (.int .i64 l[j])):=by
 unfold aq at h;generalize hp:PV.sl (l.map cI)=p at h;cases h with
 |nilsl=>
  have:l=[]:=(by simpa using hp);subst this;exact⟨none,0,rfl,λh=>EX Y h⟩
 |slE a cap hc=>
  have:l=[]:=(by simpa using hp);subst this;exact⟨some a,cap,rfl,λh=>EX Y h⟩
 |sl b off cap sz rows xs hz hb h1 h2 h3 h4 h5 h6=>
  have hp:l.map cI=rows:=(by simpa using hp);subst hp;refine⟨_,cap,by rw[EB],λ_=>⟨b,off,rfl,hb,λj hj=> ?_⟩⟩;have e:(l.map cI).flatten=l.map (PV.int .i64):=n8 _ l;rw[e]at h6;obtain⟨v,hv,hr⟩:=h6.get (i:=j) (b:= .int .i64 l[j]) (by simp[hj]);have:=(h3 j v hv).1;rw[this];cases hr;rfl
 |_=>cases hp
set_option maxRecDepth 100000 in
set_option maxHeartbeats 2000000 in
theorem wT (F:Fence)(n:Nat)(h7:F.fn 240)(hro:F.round=none)(hn:1<=n)(l Bs o n₀:Nat)(p:Option Addr)(cap:Nat)(zs:List Int)(hreach:zs.length*8<=140737488351232)(J Jx:List Int->World->Prop)
  (hY: ∀pre x W,J pre W->pre.length<zs.length->YieldAt F (n-1) Tryz.prog l #[.int .i64 x] W λe W'=>
   (e= .returned (.bool true)/\J (pre++[x]) W'/\KpE n₀ W W')∨(e= .returned (.bool false)/\Jx (pre++[x]) W'))
  (W:World) (hBs:W.cell? ⟨Bs,o,none⟩=some (.slice p zs.length cap)) (hc:zs≠[]->∃b off,p=some ⟨b,off,none⟩/\b<n₀/\∀j (hj:j<zs.length),W.cell? ⟨b,off+j,none⟩=some (.int .i64 zs[j])) (h0:J [] W):
  CallsIn F n Tryz.prog 240 #[.func (.yield l) #[] #[],.pointer (some ⟨Bs,o,none⟩)] W λe W'=>(∃v,e= .returned v)/\((∃ys,ys=zs/\J ys W')∨(∃pre,True/\Jx pre W')):=by
 refine callsIn_of_wp Tryz.func240 Y h7 ?_ hro;simp only[Tryz.ntmps240,H3,El,Fg,Nat.reduceAdd,Nat.reduceSub,HC,HD,HX,HN,Ff,Fj]
 gi_wp2
 gi_loopw [7] (λi wr=> ∃k:Nat,k<=zs.length/\i= .int .i64 k/\J (zs.take k) wr/\KpE n₀ W wr)
  (λi _=>zs.length-(intOf i).toNat)
 case atStart=>exact⟨0,Er _,rfl,h0,KpE.refl _ _⟩
 case round=>
  obtain⟨k,hk,rfl,hJs,hnx⟩:=hrel;by_cases hlt:k<zs.length
  ·obtain⟨b,off,rfl,hb,hc⟩:=hc (λe=>by subst e;simp at hlt);have hcx:wr.cell? ⟨b,off+k,none⟩=some (.int .i64 zs[k]):=(hnx.1.cell (p:=⟨b,off+k,none⟩) hb).trans (hc k hlt);obtain⟨fn,tmps,assign,body,hy,hR⟩:=hY _ zs[k] wr hJs (by simp;omega)
   gi_wp2
   refine hR.mono ?_;rintro e W3 (⟨rfl,hJ3,hk3⟩|⟨rfl,hJx3⟩)
   ·gi_wp2
    go_roundw
    case rel=>exact⟨k+1,by omega,by simp,by rw[ED hlt];exact hJ3,hnx.trans hk3⟩
    case measure=>simp[intOf];omega
   ·gi_wp2
    refine bodyPost_ret (results_none Y _ _ _) Y ?_;exact⟨⟨_,rfl⟩,.inr ⟨_,trivial,hJx3⟩⟩
  ·obtain rfl:k=zs.length:=(by omega);rw[Ep]at hJs
   gi_wp2
   go_end0
   exact⟨⟨_,rfl⟩,.inl ⟨_,rfl,hJs⟩⟩
theorem C8 {w:World}{Z:Nat->Prop}{v:Value}{d:List (Int×Int)}(h:Rep w Z v (dm d)): ∃(p:Option Addr) (cap:Nat),v= .slice p d.length cap/\(d≠[]->∃b off,p=some ⟨b,off,none⟩/\b<w.heap.size/\∀j (hj:j<d.length),w.cell? ⟨b,off+j*2,none⟩=some (.int .i64 d[j].1)/\w.cell? ⟨b,off+j*2+1,none⟩=some (.int .i64 d[j].2)):=by
 unfold dm at h;generalize hp:PV.sl (d.map cR)=p at h;cases h with
 |nilsl=>
  have:d=[]:=(by simpa using hp);subst this;exact⟨none,0,rfl,λh=>EX Y h⟩
 |slE a cap hc=>
  have:d=[]:=(by simpa using hp);subst this;exact⟨some a,cap,rfl,λh=>EX Y h⟩
 |sl b off cap sz rows xs hz hb h1 h2 h3 h4 h5 h6=>
  have hp:d.map cR=rows:=(by simpa using hp);subst hp;refine⟨_,cap,by rw[EB],λhne=>⟨b,off,rfl,hb,λj hj=> ?_⟩⟩;have e: ∀i,i<2->(d.map cR).flatten[j*2+i]? =(cR d[j])[i]? :=λi hi=>wo (sz:=2) (λr hr=>by obtain⟨x,_,rfl⟩:=EH.1 hr;rfl) (by simp[hj]) i hi;have one: ∀i (x:Int),i<2->(cR d[j])[i]? =some (.int .i64 x)->w.cell? ⟨b,off+(j*2+i),none⟩=some (.int .i64 x):=by
   intro i x hi hx;obtain⟨v,hv,hr⟩:=h6.get ((e i hi).trans hx);rw[(h3 _ v hv).1];cases hr;rfl
  exact⟨one 0 _ (by decide) Y,by have:=one 1 _ (by decide) Y;rwa[<-Fp]at this⟩
 |_=>cases hp
set_option maxRecDepth 100000 in
set_option maxHeartbeats 4000000 in
theorem CS (F:Fence)(n:Nat)(h7:F.fn 144)(hro:F.round=none)(hn:1<=n)(l Bs o n₀:Nat)(p:Option Addr)(cap:Nat)(d:List (Int×Int))(hin:InB d)(hreach:d.length*16<=140737488351232)(J Jx:List Int->World->Prop)
  (hY: ∀pre x W,J pre W->pre.length<((vals d).take 4097).length->YieldAt F (n-1) Tryz.prog l #[.int .i64 x] W λe W'=>
   (e= .returned (.bool true)/\J (pre++[x]) W'/\KpE n₀ W W')∨(e= .returned (.bool false)/\Jx (pre++[x]) W'))
  (W:World) (hW:n₀<=W.heap.size) (hJ:AbidesFrom W.heap.size J) (hBs:W.cell? ⟨Bs,o,none⟩=some (.slice p d.length cap)) (hc:d≠[]->∃b off,p=some ⟨b,off,none⟩/\b<n₀/\∀j (hj:j<d.length),W.cell? ⟨b,off+j*2,none⟩=some (.int .i64 d[j].1)/\W.cell? ⟨b,off+j*2+1,none⟩=some (.int .i64 d[j].2)) (h0:J [] W):
  CallsIn F n Tryz.prog 144 #[.func (.yield l) #[] #[],.pointer (some ⟨Bs,o,none⟩)] W λe W'=>(∃v,e= .returned v)/\((∃ys,ys=(vals d).take 4097/\J ys W')∨(∃pre,True/\Jx pre W')):=by
 refine callsIn_of_wp Tryz.func144 Y h7 ?_ hro;simp only[Tryz.ntmps144,H3,El,Fg,Nat.reduceAdd,Nat.reduceSub,HC,HD,HX,HN,Ff,Fj]
 gi_wp2
 gi_loopw [3,9] (λc i wr=> ∃k:Nat,k<=d.length/\i= .int .i64 k/\c= .int .i64 ((vals (d.take k)).take 4097).length/\J ((vals (d.take k)).take 4097) wr/\KpE n₀ W wr)
  (λ_ i _=>d.length-(intOf i).toNat)
 case atStart=>exact⟨0,Er _,rfl,rfl,h0,KpE.refl _ _⟩
 case round=>
  obtain⟨k,hk,rfl,rfl,hJs,hnx⟩:=hrel;by_cases hlt:k<d.length
  ·obtain⟨b,off,rfl,hb,hc⟩:=hc (λe=>by subst e;simp at hlt);have hc1:wr.cell? ⟨b,off+k*2,none⟩=some (.int .i64 d[k].1):=(hnx.1.cell (p:=⟨b,off+k*2,none⟩) hb).trans (hc k hlt).1;have hc2:wr.cell? ⟨b,off+k*2+1,none⟩=some (.int .i64 d[k].2):=(hnx.1.cell (p:=⟨b,off+k*2+1,none⟩) hb).trans (hc k hlt).2
   gi_wp2
   have hA:vals (d.take (k+1))=vals (d.take k)++rng d[k].1 d[k].2:=by
    rw[ED hlt,vals,Hn];simp[vals]
   have hall: ∃r,vals d=vals (d.take k)++rng d[k].1 d[k].2++r:=by
    refine⟨vals (d.drop (k+1)),?_⟩;rw[<-hA]
    conv=>lhs;rw[<-GA (k+1) d]
    rw[vals,Hn];rfl
   have hbd:=hin d[k] (EA hlt);have hrl:(rng d[k].1 d[k].2).length=(d[k].2+1-d[k].1).toNat:=(by simp[rng]);have hrg: ∀j (h:j<(rng d[k].1 d[k].2).length),(rng d[k].1 d[k].2)[j]=d[k].1+j:=λj h=>(by simp[rng]);generalize vals (d.take k)=A at*;generalize d[k].1=lo at*;generalize d[k].2=hi at*;generalize hR:rng lo hi=R at*;have hX:(wr.alloc (.cells #[.int .i64 lo,.int .i64 hi] 53)).heap[wr.heap.size]? =some (.cells #[.int .i64 lo,.int .i64 hi] 53 (0,0)):=World.alloc_heap_new wr _;have hJ1:J (A.take 4097) (wr.alloc (.cells #[.int .i64 lo,.int .i64 hi] 53)):=hJ _ wr _ none hJs (World.grownBy_alloc wr _ none) (λr e=>by cases e);have hK1:KpE n₀ W (wr.alloc (.cells #[.int .i64 lo,.int .i64 hi] 53)):=⟨hnx.1.alloc (Em hW hnx.1.size) _,λb c e fr hb h1 h2=>(Below.heap_alloc _ _ b (EU.1 (hnx.2 b c e fr hb h1 h2)).1).trans (hnx.2 b c e fr hb h1 h2)⟩;generalize wr.alloc (.cells #[.int .i64 lo,.int .i64 hi] 53)=W1 at*;generalize hXe:wr.heap.size=X at*
   gi_loopw [3,6] (λc v wq=> ∃j:Nat,j<=R.length/\v= .int .i64 (lo+j)/\c= .int .i64 ((A++R.take j).take 4097).length/\J ((A++R.take j).take 4097) wq/\KpE n₀ W wq/\wq.heap[X]? =some (.cells #[.int .i64 lo,.int .i64 hi] 53 (0,0))/\(j=0∨(A++R.take j).length<=4097))
    (λc v _=>(hi+1-intOf v).toNat)
   case atStart=>exact⟨0,Er _,by simp,by simp,by simpa using hJ1,hK1,hX,.inl Y⟩
   case round=>
    obtain⟨j,hj,rfl,rfl,hJ2,hK2,hX2,hj4⟩:=hrel;have hx2:wr.cell? ⟨X,1,none⟩=some (Value.int .i64 hi):=(by simp[World.cell?,hX2]);by_cases hgo:j<R.length/\((A++R.take j).take 4097).length<=4096
    ·obtain⟨hjl,hle⟩:=hgo;have hle2:(A++R.take j).length<=4096:=(by rw[F0]at hle;omega);have e1:(A++R.take j).take 4097=A++R.take j:=EY (by omega);have e2:(A++R.take (j+1)).take 4097=A++R.take j++[lo+j]:=by
      rw[ED hjl,hrg j hjl,<-F5,EY];rw[EZ];simp only[FY];omega
     obtain⟨r,hr⟩:=hall;rw[e1]at hJ2⊢;have hY2:=hY _ (lo+j) wr hJ2 (by
      rw[hr];simp only[F0,EZ]at hle2⊢;omega)
     have hlj:lo+j<=hi:=(by omega);have e3:(A++R.take (j+1)).take 4097=(A++R.take (j+1)):=(by rw[e2,ED hjl,hrg j hjl,<-F5]);generalize hP:A++R.take j=pre at*;obtain⟨cn,hcn⟩: ∃cn,pre.length=cn:=⟨_,rfl⟩;rw[hcn]at hle2⊢;obtain⟨fn,tmps,assign,body,hy,hR2⟩:=hY2
     gi_wp2
     refine hR2.mono ?_;rintro e W3 (⟨rfl,hJ3,hk3⟩|⟨rfl,hJx3⟩)
     ·gi_wp2
      go_roundw
      case rel=>exact⟨j+1,by omega,by simp;omega,by rw[e2,EZ,hcn];simp,by rw[e2];exact hJ3,hK2.trans hk3,hk3.2 _ _ _ _ hX2 (by decide) (by decide),.inr (by rw[<-e3,F0];omega)⟩
      case measure=>simp[intOf];omega
     ·gi_wp2
      refine bodyPost_ret (results_none Y _ _ _) Y ?_;exact⟨⟨_,rfl⟩,.inr ⟨_,trivial,hJx3⟩⟩
    ·have hend:(A++R.take j).take 4097=(A++R).take 4097:=by
      by_cases h1:j<R.length
      ·have h2:4097<=(A++R.take j).length:=by
        have h3: ¬((A++R.take j).take 4097).length<=4096:=λh=>hgo ⟨h1,h⟩;rw[F0]at h3;omega
       have h4:A++R=A++R.take j++R.drop j:=(by rw[F5,GA]);rw[h4,GY h2]
      ·rw[show R.take j=R from EY (by omega)]
     have hex: ¬(lo+j<=hi/\(((A++R).take 4097).length:Int)<=4096):=by
      rintro⟨h1,h2⟩;exact hgo ⟨by omega,by rw[hend];omega⟩
     rw[hend]at hJ2⊢;have hA2:((A++R).take 4097).length=((vals (d.take (k+1))).take 4097).length:=(by rw[hA]);generalize hcn:((A++R).take 4097).length=cn at*;rw[<-hA]at hJ2;by_cases h1:lo+j<=hi
     ·have h2: ¬(cn<=4096):=λh2=>hex ⟨h1,by omega⟩;have h3:Hid (¬cn<=4096):=h2;have hA3:Hid (cn=((vals (d.take (k+1))).take 4097).length):=hA2;clear hex h2 hend hA2 hcn
      gi_wp2
      ·have h4: ¬cn<=4096:=h3;omega
      ·have hA2:cn=((vals (d.take (k+1))).take 4097).length:=hA3;exact⟨⟨k+1,by omega,by simp,by rw[hA2],hJ2,hK2⟩,by simp[intOf];omega⟩
     ·gi_wp2
      exact⟨⟨k+1,by omega,by simp,by rw[hA2],hJ2,hK2⟩,by simp[intOf];omega⟩
  ·obtain rfl:k=d.length:=(by omega);rw[Ep]at hJs
   gi_wp2
   go_end0
   exact⟨⟨_,rfl⟩,.inl ⟨_,rfl,hJs⟩⟩
theorem qU (Bs o:Nat)(zs:List Int)(hreach:zs.length*8<=140737488351232)(w:World)(u:Value){Z:Nat->Prop}(hu:Rep w Z u (.ptr [aq zs])):wR Tryz.prog 240 #[u] w.heap.size w zs:=by
 intro F n hF hro hn l J Jx W hW hJ _ hY h0;cases hu with
 |ptr b o cells xs hz hb h1 h2 h3=>
  cases h3 with
  | @cons v _ vs _ hv _=>
   obtain⟨p,cap,rfl,hc⟩:=A3 hv;have hcell:w.cell? ⟨b,o,none⟩=some (.slice p zs.length cap):=(by have:=(h2 0 _ Y).1;simpa using this);exact wT F n hF hro hn l b o w.heap.size p cap zs hreach J Jx hY W ((hW.cell (p:=⟨b,o,none⟩) hb).trans hcell) (λhne=>by
    obtain⟨b',off,e,hb',hcs⟩:=hc hne;exact⟨b',off,e,hb',λj hj=>(hW.cell (p:=⟨b',off+j,none⟩) hb').trans (hcs j hj)⟩) h0
theorem yo (d:List (Int×Int))(hin:InB d)(hreach:d.length*16<=140737488351232)(w:World)(u:Value){Z:Nat->Prop}(hu:Rep w Z u (.ptr [dm d])):wR Tryz.prog 144 #[u] w.heap.size w ((vals d).take 4097):=by
 intro F n hF hro hn l J Jx W hW hJ _ hY h0;cases hu with
 |ptr b o cells xs hz hb h1 h2 h3=>
  cases h3 with
  | @cons v _ vs _ hv _=>
   obtain⟨p,cap,rfl,hc⟩:=C8 hv;have hcell:w.cell? ⟨b,o,none⟩=some (.slice p d.length cap):=(by have:=(h2 0 _ Y).1;simpa using this);exact CS F n hF hro hn l b o w.heap.size p cap d hin hreach J Jx hY W hW.size hJ ((hW.cell (p:=⟨b,o,none⟩) hb).trans hcell) (λhne=>by
    obtain⟨b',off,e,hb',hcs⟩:=hc hne;exact⟨b',off,e,hb',λj hj=>⟨(hW.cell (p:=⟨b',off+j*2,none⟩) hb').trans (hcs j hj).1,(hW.cell (p:=⟨b',off+j*2+1,none⟩) hb').trans (hcs j hj).2⟩⟩) h0
theorem DY:(Tryz.prog.info? 3).map (λi=>(i.zero,i.size,i.bytes))=some (some (.int .i64 0),1,8):=by kernel_rfl
theorem CA {W w1:World}{n₀ B:Nat}{v v':Value}{k:Nat}{xs:List Value}{tmp:Obj}(hv:Boxed W B 24 v)(hrow:W.ownsRow n₀ 3 1 v k xs)(hgrow:(W.alloc tmp).grownBy w1 v.ownBlock)
  (b:Nat) (c:Array Value) (e:TypeId) (fr:Nat×Nat) (hb:W.heap[b]? =some (.cells c e fr)) (h1:e≠3) (h2:e≠24):(w1.setCell ⟨B,0,none⟩ v').heap[b]? =some (.cells c e fr):=by
 have hlt:=(EU.1 hb).1;have hbB:b≠B:=by
  rintro rfl;have hv:W.heap[b]? =some (.cells #[v] 24 (0,0)):=hv;rw[hv]at hb;cases hb;exact h2 Y
 have ha:(W.alloc tmp).heap[b]? =some (.cells c e fr):=(Below.heap_alloc _ _ b hlt).trans hb;have hg:w1.heap[b]? =some (.cells c e fr):=by
  refine(hgrow.block b (by simp;omega) λeb=> ?_).trans ha;rcases hrow.2 with ⟨rfl,_⟩|⟨g,cap,cur,rfl,_,hgb,_⟩;·cases eb
  ·obtain rfl:b=g:=(by simpa[Value.ownBlock]using eb);rw[hgb]at hb;cases hb;exact h1 Y
 exact((grownBy_setCell' w1 B v').block b (EU.1 hg).1 (λe=>hbB (E7 e))).trans hg
theorem Cz {n₀:Nat}(W:World)(l:Nat)(o o':Obj)(hl:n₀<=l)(ho:W.heap[l]? =some o)(h1:o.isCells=false):KpE n₀ W (W.putObj l o'):=by
 refine⟨(Below.refl n₀ W).grown (grownBy_putObj' W l o') (by have:=(EU.1 ho).1;omega) (λk e=>by cases e;exact hl),λb c e fr hb _ _=> ?_⟩;have hne:l≠b:=(by rintro rfl;rw[ho]at hb;cases hb;cases h1);exact(World.putObj_heap_other (Ne.symm hne)).trans hb
set_option maxRecDepth 100000 in
set_option maxHeartbeats 4000000 in
theorem ub (F:Fence)(n:Nat)(hF:F.fn 143)(hro:F.round=none)(hn:3<=n)(g:Nat)(lb:Array Value)(hFg:F.fn g)(eg: ∀args w,(callFunc g args).run Tryz.prog w= .ok (.enter g args) w)(xs:List Int)(hlen:xs.length*8<=140737488355328)(w:World)
  (hs:wR Tryz.prog g lb w.heap.size w xs):
  CallsIn F n Tryz.prog 143 #[.slice none 0 0,.func (.func g) #[] lb] w λe W'=> ∃v,e= .returned v/\W'.ownsRow w.heap.size 3 1 v xs.length (xs.map (Value.int .i64))/\Below w.heap.size w W':=by
 have h1:1<=n:=(by omega);obtain⟨i0,hi,hz0,hz1,hz2⟩:=info_parts DY;refine callsIn_of_wp_marks Tryz.func143 Y hF ?_ hro;simp only[Tryz.ntmps143,H3,El,Fg,Nat.reduceAdd,Nat.reduceSub,HC,HD,HX,HN,Ff,Fj]
 gi_wp2
 have bO:=Boxed.new w 24 (.slice none 0 0);have hB0:Below w.heap.size w (w.alloc (.cells #[.slice none 0 0] 24)):=(Below.refl _ w).alloc (EO _) _;have hm:maxLen=9223372036854775807:=rfl;refine wpIn_rangeFunc_ownG hro h1 (gf:=g) (lb:=lb) Y hFg eg (hs F (n-1) hFg hro (by omega)) KpE.trans (λW l o o' hl ho h1 _=>Cz W l o o' (by simp at hl;omega) ho h1) hB0 (λ_=>rfl)
  (λ(pre:List Int) W=>(∃v,Boxed W w.heap.size 24 v/\W.ownsRow w.heap.size 3 1 v pre.length (pre.map (Value.int .i64))/\True)/\Below w.heap.size w W)
  (λ_ _ _=>False)
  (OwnFrom.and (Own.from (holdsRow_own w.heap.size w.heap.size 24 3 1 (λpre:List Int=>pre.length) (λpre:List Int=>pre.map (Value.int .i64)) (λ_ _=>True)) _) (ownFrom_below (EO _) (by simp)))
  (λ_ _ _ _ _ hs _ _=>hs)
  ⟨⟨_,bO,World.ownsRow_nil _ _ _ _,trivial⟩,hB0⟩
  (λx=> { tmps:= #[.slice none 0 0,.func (.func g) #[] lb,.pointer (some ⟨w.heap.size,0,none⟩),undef,.slice none 0 0,.int .i64 x,.func (.func g) #[] lb,.int .i64 x,undef,undef,undef,undef,undef],defers:=[] }) ?assign ?body ?done ?stop
 case assign=>
  intro l x W K hK
  gi_wp2
  exact hK
 case body=>
  rintro l pre x W ⟨⟨v,hv,hrow,_⟩,hB⟩ hlt;have hc:=hv.cell
  gi_wp2_with (gi_at_builtin;refine wpListIn_append_own _ Y _ _ 24 Y w.heap.size 3 i0 (.int .i64 0) 1 8 Tryz.underlying24 hi hz0 hz1 hz2 Y (by decide) _ _ _ Y (hrow.alloc _) ⟨W.heap.size,0,none⟩ 1 1 [.int .i64 x] Y Y (cell_one_new _ _ _) (by simp[Value.oneCell']) (by omega) (by omega) (by have:=hB.size;simp;omega) ?_;intro v' w1 hown' hgrow _;obtain⟨g',cap',rfl⟩:=ownsRow_succ hown';obtain⟨hv1,hv2,hr2,hk2,hb2⟩:=hv.appended (by decide) hrow hB.size (EO _) hown' hgrow;have hkp:=CA (v':=Value.slice (some ⟨g',0,none⟩) (pre.length+1) cap') hv hrow hgrow;have hc1:=hv1.cell;have hf1:=hv1.frozen)
  exact⟨hk2.from _,⟨hb2,hkp⟩,⟨_,hv2,by simpa using hr2,trivial⟩,hB.trans hb2⟩
 case done=>
  rintro D ys W hD rfl ⟨⟨v,hv,hrow,_⟩,hB⟩ hK;have hc:=hv.cell
  gi_wp2
  refine⟨by simp,.inl ⟨_,_,rfl,run_takeDeferred hK,?_⟩⟩;exact⟨_,results_tmp Y _ _ _,v,rfl,ownsRow_putObj hrow _ hK Y,hB.trans (belowK_b (w:=w) (EO _) W D _ _ (by simp at hD;omega) hK Y Y)⟩
 case stop=>
  rintro D c pre W _ _ h _;exact h.elim
theorem yd (F:Fence)(n:Nat)(h8:F.fn 113)(hF:F.fn 143)(hro:F.round=none)(hn:4<=n)(g:Nat)(lb:Array Value)(hFg:F.fn g)(eg: ∀args w,(callFunc g args).run Tryz.prog w= .ok (.enter g args) w)(xs:List Int)(hlen:xs.length*8<=140737488355328)(w:World)
  (hs:wR Tryz.prog g lb w.heap.size w xs):
  CallsIn F n Tryz.prog 113 #[.func (.func g) #[] lb] w λe W'=> ∃v,e= .returned v/\W'.ownsRow w.heap.size 3 1 v xs.length (xs.map (Value.int .i64))/\Below w.heap.size w W':=by
 have h1:1<=n:=(by omega);refine callsIn_of_wp Tryz.func113 Y h8 ?_ hro;simp only[Tryz.ntmps113,H3,El,Fg,Nat.reduceAdd,Nat.reduceSub,HC,HD,HX,HN,Ff,Fj]
 gi_wp2_with (gi_at_call 143;refine(ub F (n-1) hF hro (by omega) g lb hFg eg xs hlen _ hs).mono ?_;rintro e w' ⟨v,rfl,hrow,hb⟩)
 go_ret
 exact⟨v,rfl,hrow,hb⟩
end Go.Proofs.YtopcjbahjjhdmaaGreat
namespace Go.Proofs.YtopcjbahjjhdmaaGreat
open Go Go.RowKit
set_option linter.unusedVariables false
set_option linter.unusedSimpArgs false
set_option maxRecDepth 8000
theorem Bf {w w':World}{v:Value}{xs:List Int}{Zx:Nat->Prop}(h:w'.ownsRow w.heap.size 3 1 v xs.length (xs.map (Value.int .i64))):RetRel w w' Zx [v] [.own 3 1 (xs.map cI)]:=by
 have hvb: ∀g,VB v g->w.heap.size<=g:=λg hg=>(h.lt g ((uf h).1 hg)).1;have hsl: ∀Z:Nat->Prop,dR w' Z v 3 1 (xs.map cI):=λZ=>by
  refine⟨xs.map (Value.int .i64),?_,?_,λr hr=>by obtain⟨x,_,rfl⟩:=EH.1 hr;rfl,λr hr p hp=>by obtain⟨x,_,rfl⟩:=EH.1 hr;simp[cI]at hp;rw[hp];rfl⟩
  ·rw[EB];refine⟨h.1,?_⟩;rcases h.2 with h2|⟨g,cap,cur,e,_,r⟩;·exact .inl h2
   ·exact .inr ⟨g,cap,cur,e,Er _,r⟩
  ·have e:(xs.map cI).flatten=xs.map (PV.int .i64):=n8 _ xs;rw[e];clear e h hvb
   induction xs with
   |nil=>exact .nil
   |cons x xs ih=>exact .cons (.int _ _) ih
 refine⟨.cons (hsl _) .nil,λu g hu hg=> ?_,λi j u u' g hi hj _ _=> ?_⟩
 ·have:u=v:=(by simpa[RV.vals]using hu);exact hvb g (this▸hg)
 ·simp only[RV.vals]at hi hj;cases i<;>cases j<;>simp_all
theorem mF {g:FuncId}{caps:List PV}{xs:List Int}(eg: ∀args w,(callFunc g args).run Tryz.prog w= .ok (.enter g args) w)(hg: ∀(w:World) (Z:Nat->Prop) (us:List Value),L2 (Rep w Z) us caps->wR Tryz.prog g us.toArray w.heap.size w xs)(hl:xs.length*8<=140737488355328):
  Spec Tryz.prog 113 false [.fn (.func g) [] caps] [.own 3 1 (xs.map cI)]:=by
 refine⟨⟨_,Tryz.func113,rfl,rfl⟩,λw Z vs hvs=> ?_⟩;cases hvs with
 |cons h0 h1=>
  cases h1;cases h0 with
  |fn f fs us fst cps h2 h3=>
   cases h2;refine((yd Fence.wide 9 trivial trivial Y (by decide) g us.toArray trivial eg xs hl w (hg w Z us h3)).calls room_wide).mono ?_;rintro e w' ⟨v,rfl,hrow,hb⟩;exact⟨[v],rfl,hb,Bf hrow⟩
theorem Au (d:List (Int×Int)):Spec Tryz.prog 114 true [dm d] [.val (.fn (.func 144) [] [.ptr [dm d]])]:=by
 refine Spec.body Tryz.func114 Y Y Y λw0 Z0=> ?_;refine .B ?_;refine J.sub (Rel.unbx (s:=1) (λ_ h=>h) Y Y) ?_;refine J.sub (Rel.fp (s:=1) Y) ?_;refine .B ?_;exact⟨_,.v Y Y Y (λh=>by cases h) .nil⟩
theorem pa (l:List Int):Spec Tryz.prog 221 true [aq l] [.val (.fn (.func 240) [] [.ptr [aq l]])]:=by
 refine Spec.body Tryz.func221 Y Y Y λw0 Z0=> ?_;refine .B ?_;refine J.sub (Rel.unbx (s:=1) (λ_ h=>h) Y Y) ?_;refine J.sub (Rel.fp (s:=1) Y) ?_;refine .B ?_;exact⟨_,.v Y Y Y (λh=>by cases h) .nil⟩
theorem i5 (d:List (Int×Int))(hb:InB d)(hd:d.length*16<=140737488351232):Spec Tryz.prog 72 false [dm d] [.own 3 1 (((vals d).take 4097).map cI)]:=by
 refine Spec.body Tryz.func72 Y Y Y λw0 Z0=> ?_;have hc:=mF (g:=144) (caps:=[.ptr [dm d]]) (xs:=(vals d).take 4097) (enters_of Tryz.func144 (by kernel_rfl) Y) (λw Z us h=>by
  cases h with
  |cons h1 h2=>cases h2;exact yo d hb hd w _ h1) (by rw[F0];omega)
 refine .B ?_;refine .D (Au d) ?_;refine .D hc ?_;exact⟨_,.o Y Y Y (λ_=> .inl Y) (by simp) .nil⟩
set_option maxRecDepth 4000
theorem iK: ∀(l:List Int) (lo x:Int),(dn lo x l).length<=l.length+1
 | [],lo,x=>by simp[dn]
 |y::l,lo,x=>by
  have h1:=iK l lo y;have h2:=iK l y y;simp only[dn];split<;>simp only[El]<;>omega
theorem vm (l:List Int):(bX l).length<=l.length:=by
 cases l with
 |nil=>simp[bX]
 |cons x l=>have:=iK l x x;simpa[bX]using this
theorem oh {d:List (Int×Int)}(h:DomB d)(lo hi:Int):((cutR d lo hi).length)*16<=140737488355328:=by
 have h1:=vm ((vals d).filter λv=>decide (lo<=v)&&decide (v<=hi));have h2:=Ez (λv=>decide (lo<=v)&&decide (v<=hi)) (vals d);have h3:=h.2.1;unfold cutR;omega
theorem vc (d:aa)(c:Con)(hc:bG d c)(hd:d.length*24<=140737488355328)(Inv:aa->Prop)(hi1: ∀out,Inv out->∀x∈out,DomB x)(hi2: ∀out next,Inv out->bG out c->jr c out= .inr next->Inv next)(h0:Inv d)
  (R:Option aa) (N:Nat) (hR:if []∈d then R=none else b9 (jr c) N d=some R):Spec Tryz.prog 151 false [ao d,.agg (cC c)] (aJ R):=by
 refine Spec.body Tryz.func151 Y Y Y λw0 Z0=> ?_;have hh:=eF c;refine .B ?_;refine .D (dN d (by omega)) ?_;refine T.cd Y (λh1=> ?_) (λh1=> ?_)
 ·rw[E6 h1]at hR;subst hR;refine .B ?_;exact⟨_,.ownN Y (.v Y Y Y (λ_=>rfl) .nil)⟩
 ·rw[E4 h1]at hR;refine .B ?_;refine .D (cJ d (by omega) (λx hx=>(hi1 d h0 x hx).2.2)) ?_;have e1:IntKind.i64.wrap (((c.vars.map cI).length:Int).tdiv 2)=(halfOf c:Int):=by
   have:=hc.1;rw[EB,GL (by omega),af (by omega) (by omega)];simp[halfOf]
  rw[e1];refine T.K (T.ind (λ(s:Nat×aa)=>⟨[(3,.optr 0 0 0 0),(6,.ref 1),(7,.val true (.int .i64 (halfOf c)))],[(0,some (.box false (cC c))),(1,some (.sl 54 1 true (s.2.map cD)))],2⟩)
   (λs=>b9 (jr c) s.1 s.2=some R/\bG s.2 c/\s.2.length*24<=140737488355328/\Inv s.2) (λs=>s.1) (N,d) ⟨hR,hc,hd,h0⟩ (λ_ _ h=>h) ?_)
  rintro⟨m,out⟩ ⟨hR,hc,hd,hI⟩ ih;simp only at hR hc hd hI ih;dsimp only;have hcv:=hc.1;have hB:=hi1 out hI;refine .B ?_;refine .D (vh out c hc hB) ?_;have hpl:placeR out c<=halfOf c:=e8 _ _;have hst:jr c out=jr c out:=rfl
  conv at hst=>rhs;unfold jr
  generalize placeR out c=k at*;refine T.cd Y (λh1=> ?_) (λh1=> ?_)
  ·have h1:k=halfOf c:=(by omega);rw[E6 h1]at hst;obtain rfl:=aQ hR hst;refine .B ?_;exact⟨_,.o Y Y Y (λ_=> .inl Y) (by simp) (.v rfl rfl rfl (λ_=>rfl) .nil)⟩
  ·have h1: ¬k=halfOf c:=(by omega);rw[E4 h1]at hst;have hv1:=hc.2 _ (az (c:=c) (k:=k) (by omega));have hv2:=hc.2 _ (az (c:=c) (k:=halfOf c+k) (by omega));have hm1:=hB _ (ac hv1.2);have hm2:=hB _ (ac hv2.2);have ra:(out.map cD)[(varAt c k).toNat]? =some (cD (domAt out (varAt c k))):=(by simp[aj hv1.2]);have rb:(out.map cD)[(varAt c (halfOf c+k)).toNat]? =some (cD (domAt out (varAt c (halfOf c+k)))):=(by simp[aj hv2.2]);have la:(varAt c k).toNat<(out.map cD).length:=(by simpa using hv1.2);have lb:(varAt c (halfOf c+k)).toNat<(out.map cD).length:=(by simpa using hv2.2);have ka:=cF (c:=c) (k:=k) (by omega);have kb:=cF (c:=c) (k:=halfOf c+k) (by omega);simp only at hst;generalize varAt c k=a at*;generalize varAt c (halfOf c+k)=b at*;generalize domAt out a=da at*;generalize domAt out b=db at*;refine .B ?_;refine .F (r:=cI a) ka ?_;rw[show IntKind.i64.wrap ((halfOf c:Int)+(k:Int))=((halfOf c+k:Nat):Int)by rw[af (by omega) (by omega)];omega];refine .F (r:=cI b) kb ?_;refine .D (cJ out (by omega) (λx hx=>(hB x hx).2.2)) ?_;refine J.io Y Y Y Y Y Y Y Y Y hv1.1 la Y ?_;refine J.lo Y Y Y Y Y Y (r:=cD da) ra Y ?_;refine .B ?_;refine .D (nw da hm1) ?_;refine J.io Y Y Y Y Y Y Y Y Y hv2.1 lb Y ?_;refine J.lo Y Y Y Y Y Y (r:=cD db) rb Y ?_;refine .B ?_;refine .D (nw db hm2) ?_;refine J.io Y Y Y Y Y Y Y Y Y hv1.1 la Y ?_;refine J.lo Y Y Y Y Y Y (r:=cD da) ra Y ?_;refine .B ?_;refine .D (mD da (dq da).1 (dq db).2.1 hm1).frz ?_;refine J.io Y Y Y Y Y Y Y Y Y hv1.1 la Y ?_;refine J.w1 Y Y Y Y Y Y Y Y Y Y Y (λ_=>rfl) (by simpa using la) ?_;refine .B ?_;refine J.io Y Y Y Y Y Y Y Y Y hv2.1 lb Y ?_;refine J.lo Y Y Y Y Y Y (r:=cD db) rb Y ?_;refine .B ?_;refine .D (mD db (dq da).1 (max (dq da).1 1048576) hm2).frz ?_;refine J.io Y Y Y Y Y Y Y Y Y hv2.1 (by simpa using lb) Y ?_;refine J.w1 Y Y Y Y Y Y Y Y Y Y Y (λ_=>rfl) (by simpa using lb) ?_;refine .B ?_;have hxl:=oh hm1 (dq da).1 (dq db).2.1;have hyl:=oh hm2 (dq da).1 (max (dq da).1 1048576);generalize cutR da (dq da).1 (dq db).2.1=x at*;generalize cutR db (dq da).1 (max (dq da).1 1048576)=y at*;have hnl:((out.set a.toNat x).set b.toNat y).length=out.length:=(by simp);have hnx: ∀z∈(out.set a.toNat x).set b.toNat y,z.length*16<=140737488355328:=by
    intro z hz;rcases EV hz with hz|rfl
    ·rcases EV hz with hz|rfl;·exact(hB z hz).2.2
     ·exact hxl
    ·exact hyl
   have hvn:bG ((out.set a.toNat x).set b.toNat y) c:=(hc.set _ _).set _ _;generalize (out.set a.toNat x).set b.toNat y=next at*
   refine .D (dN next (by omega)) ?_;refine T.cd Y (λh2=> ?_) (λh2=> ?_)
   ·rw[E6 h2]at hst;obtain rfl:=aQ hR hst;refine .B ?_;exact⟨_,.ownN Y (.v Y Y Y (λ_=>rfl) .nil)⟩
   ·rw[E4 h2]at hst;refine .B ?_;refine .D (ld next out (by omega) (λz hz=>by have:=hnx z hz;omega)) ?_;refine T.cd Y (λh3=> ?_) (λh3=> ?_)
    ·rw[E6 h3]at hst;obtain rfl:=aQ hR hst;refine .B ?_;exact⟨_,.o Y Y Y (λ_=> .inl Y) (by simp) (.v rfl rfl rfl (λ_=>rfl) .nil)⟩
    ·rw[E4 h3]at hst;obtain⟨m',hm',hR'⟩:=fH hR hst;refine .B ?_;exact T.K (ih (m',next) ⟨hR',hvn,by simp only;omega,hi2 out next hI hc hst⟩ hm')
theorem xE (d:List (List Int))(hl:d.length*24<=140737488355328)(hx: ∀x∈d,x.length*8<=140737488355328):Spec Tryz.prog 74 false [bC d] [.own 24 1 (d.map cL)]:=by
 refine Spec.body Tryz.func74 Y Y Y λw0 Z0=> ?_;refine .B ?_;refine .Q ?_;refine T.K (T.list d (λn pre post=>⟨[(0,.val false (bC d)),(3,.ref 0),(4,.val true (.int .i64 n))],[(0,some (.sl 24 1 true (pre.map cL)))],1⟩) (λ_ _ h=>h) ?_ ?_)
 ·rintro n pre x post h hn ih;have hlt:=bW h hn;have hxl:=hx x (by rw[h];simp);refine .B ?_;refine T.ct2 Y (bV h hn) ?_;refine .B ?_;refine .Q ?_;refine .F (r:=cL x) (aM h hn) ?_;refine J.a Y Y Y Y Y Y Y Y Y Y Y Y Y Y Y Y Y jE (by show(0+List.length _)*8<=_;simp;omega) ?_;refine .B ?_;refine J.sub (Rel.flat (o:=2) Y xX) ?_;refine J.sub (Rel.frz (s:=18) (λ_ h=>h) Y Y) ?_;refine .Z ?_;refine J.a1 (enc:=cL) (x:=x) (B:=24) Y Y Y Y Y Y Y Y Y Y Y Y Y Y Y Y Y Y Y Y (by omega) ?_;refine .B ?_;rw[ai hlt (by omega)];exact T.K ih
 ·refine .B ?_;refine T.cf2 Y bj ?_;refine .B ?_;exact⟨_,.o Y Y Y (λ_=> .inl Y) (by simp) .nil⟩
def ConB (c:Con):Prop:=(c.vars.length+1)*8<=140737488355328/\c.coefs.length*8<=140737488355328/\c.rows.length*24<=140737488355328/\∀x∈c.rows,x.length*8<=140737488355328
theorem vp (c:Con)(hc:ConB c):Spec Tryz.prog 38 true [.agg (cC c)] [.val (.agg (cC c))]:=by
 refine Spec.body Tryz.func38 Y Y Y λw0 Z0=> ?_;obtain⟨h1,h2,h3,h4⟩:=hc;refine .B ?_;refine .L ?_;refine .B ?_;refine .Q ?_;refine J.a Y Y Y Y Y Y Y Y Y Y Y Y Y Y Y Y Y jE (by show(0+List.length _)*8<=_;simp;omega) ?_;refine J.sub (Rel.frz (s:=6) (λ_ h=>h) Y Y) ?_;refine .B ?_;refine .X ?_;refine .Q ?_;refine J.a Y Y Y Y Y Y Y Y Y Y Y Y Y Y Y Y Y jE (by show(0+List.length _)*8<=_;simp;omega) ?_;refine J.sub (Rel.frz (s:=11) (λ_ h=>h) Y Y) ?_;refine .B ?_;refine .X ?_;refine .D (xE c.rows h3 h4).frz ?_;refine .X ?_;refine .X ?_;exact⟨_,.c Y Y Y Y (λh=>by cases h) .nil⟩
def usesR (c:Con):List Int:=aT (if c.kind=4 then c.vars++[c.b]else c.vars)
theorem zg (c:Con)(hc:ConB c):Spec Tryz.prog 61 false [.agg (cC c)] [.own 3 1 ((usesR c).map cI)]:=by
 refine Spec.body Tryz.func61 Y Y Y λw0 Z0=> ?_;obtain⟨h1,h2,h3,h4⟩:=hc;refine .B ?_;refine .Q ?_;refine J.a Y Y Y Y Y Y Y Y Y Y Y Y Y Y Y Y Y jE (by show(0+List.length _)*8<=_;simp;omega) ?_;refine J.sub (Rel.flat (o:=2) Y xX) ?_;refine .B ?_;refine T.cd Y (λh=> ?_) (λh=> ?_)
 ·have e:usesR c=aT (c.vars++[c.b]):=(by unfold usesR;rw[E6 (show c.kind=4 from h)]);rw[e];refine .B ?_;refine .Z ?_;refine J.aI Y Y Y Y Y Y Y Y Y Y Y Y Y Y Y Y Y Y Y (l:=c.vars) (by omega) ?_;refine .B ?_;refine .D (dI (c.vars++[c.b]) (by simp;omega)) ?_;exact⟨_,.o Y Y Y (λ_=> .inl Y) (by simp) .nil⟩
 ·have e:usesR c=aT c.vars:=(by unfold usesR;rw[E4 (show¬c.kind=4 from h)]);rw[e];refine .B ?_;refine .D (dI c.vars (by omega)) ?_;exact⟨_,.o Y Y Y (λ_=> .inl Y) (by simp) .nil⟩
theorem nR (l:List Int)(hl:l.length*8<=140737488355328):Spec Tryz.prog 93 false [aq l] [.val (.bool (decide l.Nodup))]:=by
 refine Spec.body Tryz.func93 Y Y Y λw0 Z0=> ?_;refine .B ?_;refine T.K (T.ind (λi:Nat=>⟨[(0,.val false (aq l)),(3,.val true (.int .i64 i))],[],0⟩) (λi=>i<=l.length/\(l.take i).Nodup) (λi=>l.length-i) 0 (by simp) (λ_ _ h=>h) ?_);rintro i ⟨hi,hd⟩ ih;refine .B ?_;refine T.cd Y (λh1=> ?_) (λh1=> ?_)
 ·have h1:i<l.length:=(by simpa using h1);refine .B ?_;refine T.K (T.ind (λk:Nat=>⟨[(0,.val false (aq l)),(3,.val true (.int .i64 i)),(4,.val true (.int .i64 k))],[],0⟩) (λk=>k<=i/\l[i]∉l.take k) (λk=>i-k) 0 (by simp) (λ_ _ h=>h) ?_);rintro k ⟨hk,hn⟩ ih2;refine .B ?_;refine T.cd Y (λh2=> ?_) (λh2=> ?_)
  ·have h2:k<i:=(by omega);refine .B ?_;refine .F (r:=cI l[i]) (ax h1) ?_;refine .F (r:=cI l[k]) (ax (by omega)) ?_;refine T.cd Y (λh3=> ?_) (λh3=> ?_)
   ·refine .B ?_;refine⟨_,.v Y Y ?_ (λ_=>rfl) .nil⟩;rw[EE];intro h;have:=Gi.1 h k i (by omega) h1 h2;exact this (Eq.symm h3)
   ·refine .B ?_;rw[ai (l:=l.length) (by omega) (by omega)];refine T.K (ih2 (k+1) ⟨by omega,?_⟩ (by omega));rw[ED (by omega)];simp only[EW,EI,not_or];exact⟨hn,h3⟩
  ·have h2:k=i:=(by omega);subst h2;refine .B ?_;rw[ai (l:=l.length) (by omega) (by omega)];refine T.K (ih (k+1) ⟨by omega,?_⟩ (by omega));rw[ED (by omega),H5];refine⟨hd,by simp,?_⟩;intro a ha b hb e;simp only[EI]at hb;subst hb e;exact hn ha
 ·have h1:i=l.length:=(by simp at h1;omega);refine .B ?_;refine⟨_,.v Y Y ?_ (λ_=>rfl) .nil⟩;rw[h1,Ep]at hd;simp[hd]
def sumR (c:Con):Bool:=decide c.vars.Nodup&&decide (0<c.vars.length)&&decide (c.vars.length=c.coefs.length)&& !decide (0∈c.coefs)
theorem AQ (c:Con)(hc:ConB c):Spec Tryz.prog 94 false [.agg (cC c)] [.val (.bool (sumR c))]:=by
 refine Spec.body Tryz.func94 Y Y Y λw0 Z0=> ?_;obtain⟨h1,h2,h3,h4⟩:=hc;unfold sumR;have ho:=nR c.vars (by omega);generalize decide c.vars.Nodup=b1 at*;refine .B ?_;refine .D ho ?_;refine J.gb Y Y Y (λh=> ?_) (λh=> ?_)
 ·subst h;refine .B ?_;refine J.g Y Y Y (λh=> ?_) (λh=> ?_)
  ·have h:0<c.vars.length:=(by simpa using h);refine .B ?_;refine J.g Y Y Y (λh5=> ?_) (λh5=> ?_)
   ·have h5:c.vars.length=c.coefs.length:=(by simp only[EB]at h5;omega);refine .B ?_;refine .D (mt c.coefs 0 (by omega)) ?_;exact⟨_,.v Y Y (by simp[h5];intro hh;omega) (λ_=>rfl) .nil⟩
   ·have h5: ¬c.vars.length=c.coefs.length:=(by simp only[EB]at h5;omega);refine .B ?_;exact⟨_,.v Y Y (by simp[h5]) (λ_=>rfl) .nil⟩
  ·have h: ¬0<c.vars.length:=(by simpa using h);refine .B ?_;exact⟨_,.v Y Y (by simp[h]) (λ_=>rfl) .nil⟩
 ·subst h;refine .B ?_;exact⟨_,.v Y Y (by simp) (λ_=>rfl) .nil⟩
def em (c:Con)(r:List Int):Bool:=decide (r.length=c.vars.length)&&r.all aN
def kF (c:Con):Bool:=c.rows.all (em c)&&decide (c.rows.length<=1024)
theorem zx (c:Con)(hc:ConB c):Spec Tryz.prog 95 false [.agg (cC c)] [.val (.bool (kF c))]:=by
 refine Spec.body Tryz.func95 Y Y Y λw0 Z0=> ?_;obtain⟨h1,h2,h3,h4⟩:=hc;refine .B ?_;refine T.K (T.listI c.rows (λpre=>pre.all (em c)=true) (λn pre post=>⟨[(1,.optr 0 0 0 0),(3,.val true (.int .i64 n))],[(0,some (.box false (cC c)))],1⟩) (λ_ _ h=>h) Y ?_ ?_)
 ·rintro n pre x post h hn hi ih;have hlt:=bW h hn;have hxl:=h4 x (by rw[h];simp);have hra:=aM (enc:=cL) h hn;have bad:em c x=false->kF c=false:=λe=>(by rw[kF,h];simp[e]);refine .B ?_;refine T.ct2 Y (bV h hn) ?_;refine .B ?_;refine .F (r:=cL x) hra ?_;refine T.cd Y (λh5=> ?_) (λh5=> ?_)
  ·have h5: ¬x.length=c.vars.length:=(by simp only[EB]at h5;omega);rw[bad (by simp[em,h5])];refine .B ?_;exact r1
  ·have h5:x.length=c.vars.length:=(by simp only[EB]at h5;omega);refine .B ?_;refine T.K (T.listI x (λpre=>pre.all aN=true) (λk pre post=>⟨[(1,.optr 0 0 0 0),(3,.val true (.int .i64 n)),(4,.val true (.int .i64 k))],[(0,some (.box false (cC c)))],1⟩) (λ_ _ h=>h) Y ?_ ?_)
   ·rintro k pre2 y post2 h6 hk hi2 ih2;have hlt2:=bW h6 hk;refine .B ?_;refine .F (r:=cL x) hra ?_;refine T.ct2 Y (bV h6 hk) ?_;refine .B ?_;refine .F (r:=cL x) hra ?_;refine .F (r:=cI y) (aM h6 hk) ?_;refine .D (kZ y) ?_;refine T.cond Y (λh7=> ?_) (λh7=> ?_)
    ·rw[bad (by simp only[FZ]at h7;simp only[em];rw[h6];simp[h7])];refine .B ?_;exact r1
    ·refine .B ?_;rw[ai hlt2 (by omega)];exact T.K (ih2 (by simp only[GW]at h7;simp[Ft,hi2,h7]))
   ·intro hi2;refine .B ?_;refine .F (r:=cL x) hra ?_;refine T.cf2 Y bj ?_;refine .B ?_;rw[ai hlt (by omega)];exact T.K (ih (by rw[Ft,hi];simp[em,h5,hi2]))
 ·intro hi;refine .B ?_;refine T.cf2 Y bj ?_;refine .B ?_;exact⟨_,.v Y Y (by rw[kF,hi];simp;omega) (λ_=>rfl) .nil⟩
def truthR (d:List (Int×Int)):Bool:=d.all λr=> !(decide (r.1<0)||decide (1<r.2))
theorem o7 (d:List (Int×Int))(hd:d.length*8<=140737488355328):Spec Tryz.prog 96 false [dm d] [.val (.bool (truthR d))]:=by
 refine Spec.body Tryz.func96 Y Y Y λw0 Z0=> ?_;refine .B ?_;refine T.K (T.listI d (λpre=>truthR pre=true) (λn pre post=>⟨[(0,.val false (dm d)),(3,.val true (.int .i64 n))],[],0⟩) (λ_ _ h=>h) Y ?_ ?_)
 ·rintro n pre x post h hn hi ih;have hlt:=bW h hn;have hra:=aM (enc:=cR) h hn;have bad:(decide (x.1<0)||decide (1<x.2))=true->truthR d=false:=λe=>by
   rw[truthR,h,Ft,Gn,e];simp
  refine .B ?_;refine T.ct2 Y (bV h hn) ?_;refine .B ?_;refine .F (r:=cR x) hra ?_;refine J.g Y Y Y (λh1=> ?_) (λh1=> ?_)
  ·rw[bad (by simp[show x.1<0 from h1])];refine .B ?_;refine T.ct Y ?_;refine .B ?_;exact r1
  ·refine .B ?_;refine .F (r:=cR x) hra ?_;refine T.cd Y (λh2=> ?_) (λh2=> ?_)
   ·rw[bad (by simp[show x.2 > 1 from h2])];refine .B ?_;exact r1
   ·refine .B ?_;rw[ai hlt (by omega)];refine T.K (ih ?_);simp only[truthR,Ft,EL]at hi⊢;refine⟨hi,?_⟩;simp[show¬x.1<0 from h1,show¬1<x.2 from h2]
 ·intro hi;refine .B ?_;refine T.cf2 Y bj ?_;refine .B ?_;exact⟨_,.v Y Y (by rw[hi]) (λ_=>rfl) .nil⟩
def e5 (room:Int):List Int->Bool
 | []=>false
 |x::xs=>if 4398046511104<x∨x< -4398046511104 then true else if room-max x (-x)*1048576<0 then true else e5 (room-max x (-x)*1048576) xs
def eN (l:List Int)(rhs:Int):Bool:=if 4611686018427387904<rhs∨rhs< -4611686018427387904 then true else e5 (4611686018427387904-max rhs (-rhs)) l
theorem B0 (l:List Int)(rhs:Int)(hl:l.length*8<=140737488355328):Spec Tryz.prog 63 false [aq l,.int .i64 rhs] [.val (.bool (eN l rhs))]:=by
 refine Spec.body Tryz.func63 Y Y Y λw0 Z0=> ?_;unfold eN;refine .B ?_;refine J.g Y Y Y (λh1=> ?_) (λh1=> ?_)
 ·rw[E6 (.inl h1)];refine .B ?_;refine T.ct Y ?_;refine .B ?_;exact r1
 ·have h1: ¬4611686018427387904<rhs:=h1;refine .B ?_;rw[show IntKind.i64.wrap (0-4611686018427387904)= -4611686018427387904 by rfl];refine T.cd Y (λh2=> ?_) (λh2=> ?_)
  ·rw[E6 (.inr h2)];refine .B ?_;exact r1
  ·rw[E4 (by omega)];refine .B ?_;rw[af (n:=0-rhs) (by omega) (by omega),show(0:Int)-rhs= -rhs by omega,af (n:=4611686018427387904-max rhs (-rhs)) (by omega) (by omega)];refine T.K (T.ind (λ(s:Nat×Int)=>⟨[(0,.val false (aq l)),(5,.val true (.int .i64 s.2)),(6,.val true (.int .i64 s.1))],[],0⟩)
    (λs=>s.1<=l.length/\0<=s.2/\s.2<=4611686018427387904/\e5 s.2 (l.drop s.1)=e5 (4611686018427387904-max rhs (-rhs)) l) (λs=>l.length-s.1) (0,4611686018427387904-max rhs (-rhs)) ⟨by simp,by simp only;omega,by simp only;omega,by simp⟩ (λ_ _ h=>h) ?_)
   rintro⟨i,room⟩ ⟨hi,hr0,hr1,he⟩ ih;simp only at hi hr0 hr1 he ih;rw[<-he];dsimp only;refine .B ?_;refine T.cd Y (λh3=> ?_) (λh3=> ?_)
   ·have h3:i<l.length:=(by simpa using h3);rw[EP h3,e5]at he⊢;refine .B ?_;refine .F (r:=cI l[i]) (ax h3) ?_;refine J.g Y Y Y (λh4=> ?_) (λh4=> ?_)
    ·rw[E6 (.inl h4)];refine .B ?_;refine T.ct Y ?_;refine .B ?_;exact r1
    ·have h4: ¬l[i] > 4398046511104:=h4;refine .B ?_;refine .F (r:=cI l[i]) (ax h3) ?_;refine T.cd Y (λh5=> ?_) (λh5=> ?_)
     ·rw[E6 (.inr h5)];refine .B ?_;exact r1
     ·have h5: ¬l[i]< -4398046511104:=h5;rw[E4 (by omega)]at he⊢;refine .B ?_;refine .F (r:=cI l[i]) (ax h3) ?_;refine .F (r:=cI l[i]) (ax h3) ?_;rw[af (n:=0-l[i]) (by omega) (by omega),show(0:Int)-l[i]= -l[i]by omega,af (n:=max l[i] (-l[i])*1048576) (by omega) (by omega),af (n:=room-max l[i] (-l[i])*1048576) (by omega) (by omega)];refine T.cd Y (λh6=> ?_) (λh6=> ?_)
      ·rw[E6 h6];refine .B ?_;exact r1
      ·have h6: ¬room-max l[i] (-l[i])*1048576<0:=h6;rw[E4 h6]at he⊢;refine .B ?_;rw[ai h3 (by omega),he];exact T.K (ih (i+1,room-max l[i] (-l[i])*1048576) ⟨by simp only;omega,by simp only;omega,by simp only;omega,by simp only;exact he⟩ (by simp only;omega))
   ·have h3: ¬i<l.length:=(by simpa using h3);refine .B ?_;exact⟨_,.v Y Y (by rw[Fb (by omega)];rfl) (λ_=>rfl) .nil⟩
def coefAt (c:Con)(k:Nat):Int:=c.coefs.getD k 0
def gX (d:aa)(c:Con)(i:Nat):Bool:=truthR (domAt d (varAt c i))&&(decide (coefAt c i=1)||decide (coefAt c i= -1))
def gW (d:aa)(c:Con):Bool:=(List.range c.vars.length).all (gX d c)
theorem gG {c:Con}{k:Nat}(h:k<c.coefs.length):(c.coefs.map cI)[((k:Nat):Int).toNat]? =some (cI (coefAt c k)):=by
 simp[coefAt,h]
theorem wU (d:aa)(c:Con)(hc:bG d c)(hl:c.vars.length=c.coefs.length)(hd: ∀x∈d,x.length*8<=140737488355328):Spec Tryz.prog 97 false [ao d,.agg (cC c)] [.val (.bool (gW d c))]:=by
 refine Spec.body Tryz.func97 Y Y Y λw0 Z0=> ?_;obtain⟨h1,h2⟩:=hc;refine .B ?_;refine T.K (T.ind (λi:Nat=>⟨[(0,.val false (ao d)),(3,.optr 0 0 0 0),(5,.val true (.int .i64 i))],[(0,some (.box false (cC c)))],1⟩) (λi=>i<=c.vars.length/\∀j,j<i->gX d c j=true) (λi=>c.vars.length-i) 0 (by simp) (λ_ _ h=>h) ?_);rintro i ⟨hi,hp⟩ ih;refine .B ?_;refine T.cd Y (λh3=> ?_) (λh3=> ?_)
 ·have h3:i<c.vars.length:=(by simpa using h3);have hv:=h2 _ (az h3);have ra:(d.map cD)[(varAt c i).toNat]? =some (cD (domAt d (varAt c i))):=(by simp[aj hv.2]);have hu:gX d c i=(truthR (domAt d (varAt c i))&&(decide (coefAt c i=1)||decide (coefAt c i= -1))):=rfl;have ht:=o7 (domAt d (varAt c i)) (hd _ (ac hv.2));have bad:gX d c i=false->gW d c=false:=λe=>by
   rw[gW,H8];exact⟨i,ES.2 h3,by simp[e]⟩
  have good:gX d c i=true->T _ _ _ _:=λe=>ih (i+1) ⟨by omega,λj hj=>by
   by_cases e2:j=i;·rw[e2];exact e
   ·exact hp j (by omega)⟩ (by omega)
  refine .B ?_;refine .F (r:=cI (varAt c i)) (cF h3) ?_;refine J.i Y Y Y Y Y Y Y Y Y (r:=cD (domAt d (varAt c i))) hv.1 ra Y ?_;refine .B ?_;refine .C ht ?_;generalize truthR (domAt d (varAt c i))=tr at*;cases tr
  ·rw[bad hu];refine .B ?_;refine T.ct Y ?_;refine .B ?_;exact r1
  ·rw[Fe]at hu;refine .B ?_;refine .F (r:=cI (coefAt c i)) (gG (by omega)) ?_;refine J.g Y Y Y (λh4=> ?_) (λh4=> ?_)
   ·have h4: ¬coefAt c i=1:=h4;refine .B ?_;refine .F (r:=cI (coefAt c i)) (gG (by omega)) ?_;refine T.cd Y (λh5=> ?_) (λh5=> ?_)
    ·have h5: ¬coefAt c i= -1:=h5;rw[bad (by rw[hu];simp[h4,h5])];refine .B ?_;exact r1
    ·have h5:coefAt c i= -1:=Classical.not_not.1 h5;refine .B ?_;rw[ai h3 (by omega)];exact T.K (good (by rw[hu];simp[h5]))
   ·have h4:coefAt c i=1:=Classical.not_not.1 h4;refine .B ?_;refine T.cf Y ?_;refine .B ?_;rw[ai h3 (by omega)];exact T.K (good (by rw[hu];simp[h4]))
 ·have h3:i=c.vars.length:=(by simp at h3;omega);refine .B ?_;refine⟨_,.v Y Y ?_ (λ_=>rfl) .nil⟩;simp only[PV.bool.injEq];rw[eq_comm,gW,EN];intro j hj;exact hp j (by have:=ES.1 hj;omega)
def bareR (c:Con):Bool:=decide (c.op=0)&&decide (c.rhs=0)&&decide (c.b=0)
def opR (c:Con):Bool:=decide (0<=c.op)&&decide (c.op<=2)
def manyR (c:Con):Bool:=decide (0<c.vars.length)&&decide c.vars.Nodup
def noneR (c:Con):Bool:=decide (c.rows.length=0)
def plainR (c:Con):Bool:=bareR c&&decide (c.coefs.length=0)
def rightR (d:aa)(c:Con):Bool:=
 if c.kind=0 then noneR c&&sumR c&&opR c&&decide (c.b=0)else
 if c.kind=1 then noneR c&&plainR c&&manyR c else
 if c.kind=2 then plainR c&&manyR c&&kF c else
 if c.kind=3 then noneR c&&plainR c&&manyR c&&decide (3<=c.vars.length)else
 if c.kind=4 then noneR c&&sumR c&&opR c&&truthR (domAt d c.b)&& !decide (c.b∈c.vars)else
 if c.kind=5 then noneR c&&bareR c&&sumR c&&gW d c else
 noneR c&&plainR c&&decide (2<=c.vars.length)&&decide (c.vars.length % 2=0)
theorem xj (d:aa)(c:Con)(hc:ConB c)(hv:bG d c)(hb:c.kind=4->0<=c.b/\c.b.toNat<d.length)(hd: ∀x∈d,x.length*8<=140737488355328):Spec Tryz.prog 62 false [ao d,.agg (cC c)] [.val (.bool (rightR d c))]:=by
 refine Spec.body Tryz.func62 Y Y Y λw0 Z0=> ?_;have hsum:=AQ c hc;have hrows:=zx c hc;have hunits:sumR c=true->Spec Tryz.prog 97 false [ao d,.agg (cC c)] [.val (.bool (gW d c))]:=λh=>wU d c hv (by simp[sumR]at h;omega) hd;have hoth:=nR c.vars (by have:=hc.1;omega);have hbm:=mt c.vars c.b (by have:=hc.1;omega);refine T.seq ?_;refine T.r ?_
 repeat' first|refine J.e Y Y Y Y ?_|refine J.skip Y Y Y ?_|refine J.bx Y Y Y Y Y Y ?_
 refine J.nil ?_;refine T.mid ⟨[(0,.val false (ao d)),(3,.optr 0 0 0 0),(5,.val true (.bool (bareR c)))],[(0,some (.box false (cC c)))],1⟩ ?_ ?_
 ·refine .B ?_;refine J.g Y Y Y (λh1=> ?_) (λh1=> ?_)
  ·refine .B ?_;refine J.g Y Y Y (λh2=> ?_) (λh2=> ?_)
   ·rw[show bareR c=decide (c.b=0)by simp[bareR,show c.op=0 from h1,show c.rhs=0 from h2]];refine .B ?_;exact⟨rfl,[0,3,5],[3],rfl,rfl⟩
   ·rw[show bareR c=false by simp[bareR,show¬c.rhs=0 from h2]];refine .B ?_;exact⟨rfl,[0,3,5],[3],rfl,rfl⟩
  ·rw[show bareR c=false by simp[bareR,show¬c.op=0 from h1]];refine .B ?_;exact⟨rfl,[0,3,5],[3],rfl,rfl⟩
 refine T.mid ⟨[(0,.val false (ao d)),(3,.optr 0 0 0 0),(5,.val true (.bool (bareR c))),(6,.val true (.bool (plainR c)))],[(0,some (.box false (cC c)))],1⟩ ?_ ?_
 ·rw[show plainR c=(bareR c&&decide (((c.coefs.map cI).length:Int)=0))by simp[plainR]];generalize bareR c=bb;cases bb
  ·refine .B ?_;exact⟨rfl,[0,3,5,6],[3],rfl,rfl⟩
  ·refine .B ?_;exact⟨rfl,[0,3,5,6],[3],rfl,rfl⟩
 refine T.mid ⟨[(0,.val false (ao d)),(3,.optr 0 0 0 0),(5,.val true (.bool (bareR c))),(6,.val true (.bool (plainR c))),(7,.val true (.bool (opR c)))],[(0,some (.box false (cC c)))],1⟩ ?_ ?_
 ·refine .B ?_;refine J.g Y Y Y (λh1=> ?_) (λh1=> ?_)
  ·rw[show opR c=decide (c.op<=2)by simp[opR,show c.op>=0 from h1]];refine .B ?_;exact⟨rfl,[0,3,5,6,7],[3],rfl,rfl⟩
  ·rw[show opR c=false by simp[opR,show¬0<=c.op from h1]];refine .B ?_;exact⟨rfl,[0,3,5,6,7],[3],rfl,rfl⟩
 refine T.mid ⟨[(0,.val false (ao d)),(3,.optr 0 0 0 0),(5,.val true (.bool (bareR c))),(6,.val true (.bool (plainR c))),(7,.val true (.bool (opR c))),(8,.val true (.bool (manyR c)))],[(0,some (.box false (cC c)))],1⟩ ?_ ?_
 ·refine .B ?_;refine J.g Y Y Y (λh1=> ?_) (λh1=> ?_)
  ·rw[show manyR c=decide c.vars.Nodup by simp only[EB]at h1;simp[manyR];omega];refine .B ?_;refine .D hoth ?_;exact⟨rfl,[0,3,5,6,7,8],[3],rfl,rfl⟩
  ·rw[show manyR c=false by simp only[EB]at h1;simp[manyR];omega];refine .B ?_;exact⟨rfl,[0,3,5,6,7,8],[3],rfl,rfl⟩
 refine T.mid ⟨[(0,.val false (ao d)),(3,.optr 0 0 0 0),(5,.val true (.bool (bareR c))),(6,.val true (.bool (plainR c))),(7,.val true (.bool (opR c))),(8,.val true (.bool (manyR c))),(9,.val true (.bool (noneR c)))],[(0,some (.box false (cC c)))],1⟩ ?_ ?_
 ·rw[show noneR c=decide (((c.rows.map cL).length:Int)=0)by simp[noneR]];refine .B ?_;exact⟨rfl,[0,3,5,6,7,8,9],[3],rfl,rfl⟩
 refine .B ?_;by_cases hk0:c.kind=0
 ·rw[show rightR d c=(noneR c&&sumR c&&opR c&&decide (c.b=0))by simp[rightR,hk0]];refine T.ct2 Y (by simp[hk0]) ?_;refine .B ?_;generalize noneR c=bn at*;cases bn
  ·refine .B ?_;exact r1
  ·refine .B ?_;refine .C hsum ?_;generalize sumR c=bs at*;cases bs
   ·refine .B ?_;exact r1
   ·refine .B ?_;generalize opR c=bo at*;cases bo
    ·refine .B ?_;exact r1
    ·refine .B ?_;exact⟨_,.v Y Y (by simp<;>omega) (λ_=>rfl) .nil⟩
 refine T.cf2 Y (by simp[hk0]) ?_;refine .B ?_;by_cases hk1:c.kind=1
 ·rw[show rightR d c=(noneR c&&plainR c&&manyR c)by simp[rightR,hk1]];refine T.ct2 Y (by simp[hk1]) ?_;refine .B ?_;generalize noneR c=bn at*;cases bn
  ·refine .B ?_;exact r1
  ·refine .B ?_;generalize plainR c=bp at*;cases bp
   ·refine .B ?_;exact r1
   ·refine .B ?_;exact⟨_,.v Y Y (by simp<;>omega) (λ_=>rfl) .nil⟩
 refine T.cf2 Y (by simp[hk1]) ?_;refine .B ?_;by_cases hk2:c.kind=2
 ·rw[show rightR d c=(plainR c&&manyR c&&kF c)by simp[rightR,hk2]];refine T.ct2 Y (by simp[hk2]) ?_;refine .B ?_;generalize plainR c=bp at*;cases bp
  ·refine .B ?_;exact r1
  ·refine .B ?_;generalize manyR c=bm at*;cases bm
   ·refine .B ?_;exact r1
   ·refine .B ?_;refine .D hrows ?_;exact⟨_,.v Y Y (by simp<;>omega) (λ_=>rfl) .nil⟩
 refine T.cf2 Y (by simp[hk2]) ?_;refine .B ?_;by_cases hk3:c.kind=3
 ·rw[show rightR d c=(noneR c&&plainR c&&manyR c&&decide (3<=c.vars.length))by simp[rightR,hk3]];refine T.ct2 Y (by simp[hk3]) ?_;refine .B ?_;generalize noneR c=bn at*;cases bn
  ·refine .B ?_;exact r1
  ·refine .B ?_;generalize plainR c=bp at*;cases bp
   ·refine .B ?_;exact r1
   ·refine .B ?_;generalize manyR c=bm at*;cases bm
    ·refine .B ?_;exact r1
    ·refine .B ?_;exact⟨_,.v Y Y (by simp<;>omega) (λ_=>rfl) .nil⟩
 refine T.cf2 Y (by simp[hk3]) ?_;refine .B ?_;by_cases hk4:c.kind=4
 ·rw[show rightR d c=(noneR c&&sumR c&&opR c&&truthR (domAt d c.b)&& !decide (c.b∈c.vars))by simp[rightR,hk4]];refine T.ct2 Y (by simp[hk4]) ?_;refine .B ?_;generalize noneR c=bn at*;cases bn
  ·refine .B ?_;exact r1
  ·refine .B ?_;refine .C hsum ?_;generalize sumR c=bs at*;cases bs
   ·refine .B ?_;exact r1
   ·refine .B ?_;generalize opR c=bo at*;cases bo
    ·refine .B ?_;exact r1
    ·refine .B ?_;have hb2:=hb hk4;refine J.i Y Y Y Y Y Y Y Y Y (r:=cD (domAt d c.b)) hb2.1 (by simp[aj hb2.2]) rfl ?_;refine .B ?_;have htr:=o7 (domAt d c.b) (hd _ (ac hb2.2));refine .C htr ?_;generalize truthR (domAt d c.b)=bt at*;cases bt
     ·refine .B ?_;exact r1
     ·refine .B ?_;refine .D hbm ?_;exact⟨_,.v Y Y (by simp<;>omega) (λ_=>rfl) .nil⟩
 refine T.cf2 Y (by simp[hk4]) ?_;refine .B ?_;by_cases hk5:c.kind=5
 ·rw[show rightR d c=(noneR c&&bareR c&&sumR c&&gW d c)by simp[rightR,hk5]];refine T.ct2 Y (by simp[hk5]) ?_;refine .B ?_;generalize noneR c=bn at*;cases bn
  ·refine .B ?_;exact r1
  ·refine .B ?_;generalize bareR c=bb at*;cases bb
   ·refine .B ?_;exact r1
   ·refine .B ?_;refine .C hsum ?_;generalize sumR c=bs at*;cases bs
    ·refine .B ?_;exact r1
    ·refine .B ?_;refine .D (hunits Y) ?_;exact⟨_,.v Y Y (by simp<;>omega) (λ_=>rfl) .nil⟩
 refine T.cf2 Y (by simp[hk5]) ?_;refine .B ?_;rw[show rightR d c=(noneR c&&plainR c&&decide (2<=c.vars.length)&&decide (c.vars.length % 2=0))by simp[rightR,hk0,hk1,hk2,hk3,hk4,hk5]];generalize noneR c=bn at*;cases bn
 ·refine .B ?_;exact r1
 ·refine .B ?_;generalize plainR c=bp at*;cases bp
  ·refine .B ?_;exact r1
  ·refine .B ?_;refine J.g Y Y Y (λh1=> ?_) (λh1=> ?_)
   ·have h1:2<=c.vars.length:=(by simp only[EB]at h1;omega);refine .B ?_;refine⟨_,.v Y Y ?_ (λ_=>rfl) .nil⟩;simp only[EB,Fe,h1,decide_true,PV.bool.injEq,decide_eq_decide];rw[Ht (by omega)];omega
   ·have h1: ¬2<=c.vars.length:=(by simp only[EB]at h1;omega);refine .B ?_;exact⟨_,.v Y Y (by simp[h1]) (λ_=>rfl) .nil⟩
def inD (d:aa)(v:Int):Bool:= !(decide (v<0)||decide ((d.length:Int)<=v))
def conR (d:aa)(c:Con):Int:=
 if c.kind<0∨6<c.kind then 44 else
 if(usesR c).all (inD d)=false then 43 else
 if rightR d c=false then 44 else
 if eN c.coefs c.rhs=true then 45 else 0
theorem mr {d:aa}{v:Int}:inD d v=true↔0<=v/\v.toNat<d.length:=by
 simp[inD];omega
theorem sZ {d:aa}{c:Con}(hc:ConB c)(h:(usesR c).all (inD d)=true):bG d c/\(c.kind=4->0<=c.b/\c.b.toNat<d.length):=by
 have h1: ∀v,v∈(if c.kind=4 then c.vars++[c.b]else c.vars)->0<=v/\v.toNat<d.length:=λv hv=>mr.1 (EN.1 h v ((bI v _).2 hv));refine⟨⟨by have:=hc.1;omega,λv hv=>h1 v ?_⟩,λhk=>h1 c.b ?_⟩
 ·split;·exact Ex _ hv
  ·exact hv
 ·rw[E6 hk];simp
theorem wC (d:aa)(c:Con)(hc:ConB c)(hl:d.length*8<=140737488355328)(hd: ∀x∈d,x.length*8<=140737488355328):Spec Tryz.prog 32 false [ao d,.agg (cC c)] [.val (.int .i64 (conR d c))]:=by
 refine Spec.body Tryz.func32 Y Y Y λw0 Z0=> ?_;have hu:=(zg c hc).frz;have hul:(usesR c).length*8<=140737488355328:=by
  have h1:=ej (if c.kind=4 then c.vars++[c.b]else c.vars);have h2:(if c.kind=4 then c.vars++[c.b]else c.vars).length<=c.vars.length+1:=(by split<;>simp);have:=hc.1;unfold usesR;omega
 have hin:=sZ (d:=d) hc;have hcon:conR d c=if c.kind<0∨6<c.kind then 44 else if(usesR c).all (inD d)=false then 43 else if rightR d c=false then 44 else if eN c.coefs c.rhs=true then 45 else 0:=rfl
 generalize usesR c=u at*;refine .B ?_;refine J.g Y Y Y (λh1=> ?_) (λh1=> ?_)
 ·rw[hcon,E6 (.inl h1)];refine .B ?_;refine T.ct Y ?_;refine .B ?_;exact r1
 ·refine .B ?_;refine T.cd Y (λh2=> ?_) (λh2=> ?_)
  ·rw[hcon,E6 (.inr h2)];refine .B ?_;exact r1
  ·rw[E4 (λh=>h.elim h1 h2)]at hcon;refine .B ?_;refine .D hu ?_;refine T.K (T.listI u (λpre=>pre.all (inD d)=true) (λn pre post=>⟨[(0,.val false (ao d)),(3,.optr 0 0 0 0),(5,.val true (aq u)),(6,.val true (.int .i64 n))],[(0,some (.box false (cC c)))],1⟩) (λ_ _ h=>h) Y ?_ ?_)
   ·rintro n pre x post h hn hi ih;have hlt:=bW h hn;have hra:=aM (enc:=cI) h hn;have bad:(decide (x<0)||decide ((d.length:Int)<=x))=true->conR d c=43:=λe=>by
     rw[hcon,E6];rw[h,Ft,Gn,inD,e];simp
    refine .B ?_;refine T.ct2 Y (bV h hn) ?_;refine .B ?_;refine .F (r:=cI x) hra ?_;refine J.g Y Y Y (λh3=> ?_) (λh3=> ?_)
    ·rw[bad (by simp[show x<0 from h3])];refine .B ?_;refine T.ct Y ?_;refine .B ?_;exact r1
    ·refine .B ?_;refine .F (r:=cI x) hra ?_;refine T.cd Y (λh4=> ?_) (λh4=> ?_)
     ·have h4:(d.length:Int)<=x:=(by simp only[EB]at h4;omega);rw[bad (by simp[h4])];refine .B ?_;exact r1
     ·have h4: ¬(d.length:Int)<=x:=(by simp only[EB]at h4;omega);refine .B ?_;rw[ai hlt (by omega)];refine T.K (ih ?_);rw[Ft,hi];simp[inD,show¬x<0 from h3,h4]
   ·intro hi;obtain⟨hv,hb⟩:=hin hi;rw[E4 (by simp[hi])]at hcon;refine .B ?_;refine T.cf2 Y bj ?_;refine .B ?_;refine .D (xj d c hc hv hb hd) ?_;refine T.cond Y (λh3=> ?_) (λh3=> ?_)
    ·rw[hcon,E6 (by simpa using h3)];refine .B ?_;exact r1
    ·rw[E4 (by simpa using h3)]at hcon;refine .B ?_;refine .D (B0 c.coefs c.rhs hc.2.1) ?_;refine T.cond Y (λh4=> ?_) (λh4=> ?_)
     ·rw[hcon,E6 h4];refine .B ?_;exact r1
     ·rw[hcon,E4 (by simp[h4])];refine .B ?_;exact r1
set_option maxRecDepth 8000
abbrev bF:=List (Int×Bool)
abbrev By:=List (Int×Int)
def jl (rec:bF->By->Int->Bool×bF×By)(i:Int):List Int->bF->By->Bool×bF×By
 | [],s,b=>(false,s,b)
 |v::vs,s,b=>if(lkA s v).getD false=true then jl rec i vs s b else
  match lkA b v with
  |none=>(true,upA s v true,upA b v i)
  |some k=>match rec (upA s v true) b k with
   |(true,s2,b2)=>(true,s2,upA b2 v i)
   |(false,s2,b2)=>jl rec i vs s2 b2
def fO (l:List (List Int)):Nat->Int->bF->By->Bool×bF×By
 |0,_,s,b=>(false,s,b)
 |f+1,i,s,b=>jl (λs b k=>fO l f k s b) i (l.getD i.toNat []) s b
def eh (l:List (List Int))(s:bF):Nat:=(l.flatten.filter λv=> !(lkA s v).getD false).length
def mpS (s:bF):Own:= .mp true none (s.map λp=>(Value.int .i64 p.1,PV.bool p.2))
def mpB (b:By):Own:= .mp true none (b.map λp=>(Value.int .i64 p.1,PV.int .i64 p.2))
def jo (l:List (List Int))(b:By):Prop:= ∀p∈b,0<=p.2/\p.2.toNat<l.length
theorem tN {α β:Type}[DecidableEq α](p:α×β)(l:List (α×β))(a:α):fiA (p::l) a=if p.1=a then some 0 else(fiA l a).map (· +1):=by
 unfold fiA;rw[GU];by_cases h:p.1=a;·simp[h]
 ·simp[h]
theorem xO {α β:Type}[DecidableEq α](a:α):lkA ([]:List (α×β)) a=none:=rfl
theorem dp {α β:Type}[DecidableEq α](p:α×β)(l:List (α×β))(a:α):lkA (p::l) a=if p.1=a then some p.2 else lkA l a:=by
 unfold lkA;rw[tN];by_cases h:p.1=a;·rw[E6 h,E6 h];rfl
 ·rw[E4 h,E4 h];cases fiA l a<;>simp
theorem iD {α β:Type}[DecidableEq α](p:α×β)(l:List (α×β))(a:α)(b:β):upA (p::l) a b=if p.1=a then(a,b)::l else p::upA l a b:=by
 unfold upA;rw[tN];by_cases h:p.1=a;·rw[E6 h,E6 h];rfl
 ·rw[E4 h,E4 h];cases fiA l a<;>simp
theorem l9 {α β:Type}[DecidableEq α](a c:α)(b:β): ∀l:List (α×β),lkA (upA l a b) c=if a=c then some b else lkA l c
 | []=>by
  show lkA [(a,b)] c=_;exact dp (a,b) [] c
 |p::l=>by
  rw[iD,dp];by_cases h:p.1=a
  ·rw[E6 h,dp];by_cases e:a=c;·rw[E6 e,E6 e]
   ·rw[E4 e,E4 e,E4 (λh2=>e (h.symm.trans h2))]
  ·rw[E4 h,dp,l9 a c b l];by_cases e:p.1=c;·rw[E6 e,E6 e,E4 (λh2=>h (e.trans h2.symm))]
   ·rw[E4 e,E4 e]
theorem mem_upA {α β:Type}[DecidableEq α]{a:α}{b:β}{p:α×β}: ∀{l:List (α×β)},p∈upA l a b->p∈l∨p=(a,b)
 | [],h=> .inr (by simpa[upA,fiA]using h)
 |q::l,h=>by
  rw[iD]at h;split at h
  ·rcases ET.1 h with h|h;·exact .inr h
   ·exact .inl (.tail _ h)
  ·rcases ET.1 h with h|h;·exact .inl (h▸.head _)
   ·rcases mem_upA h with h|h;·exact .inl (.tail _ h)
    ·exact .inr h
theorem jo.up {l:List (List Int)}{b:By}(h:jo l b){v i:Int}(h0:0<=i)(hi:i.toNat<l.length):jo l (upA b v i):=λp hp=>by
 rcases mem_upA hp with hp|rfl;·exact h p hp
 ·exact⟨h0,hi⟩
theorem fk {α β:Type}[DecidableEq α]{a:α}{b:β}: ∀{l:List (α×β)},lkA l a=some b->(a,b)∈l
 | [],h=>by cases h
 |p::l,h=>by
  rw[dp]at h;split at h
  ·rename_i e;obtain rfl:=E7 h;subst e;exact .head _
  ·exact .tail _ (fk h)
def sees (s:bF)(v:Int):Prop:=(lkA s v).getD false=true
structure TryOk (l:List (List Int))(s:bF)(R:Bool×bF×By):Prop where
 seen: ∀v,sees s v->sees R.2.1 v
 byIn:jo l R.2.2
theorem sees_up {s:bF}{v w:Int}:sees (upA s v true) w↔v=w∨sees s w:=by
 unfold sees;rw[l9];by_cases e:v=w;·simp[e]
 ·simp[e]
theorem s4 {l:List (List Int)}{rec:bF->By->Int->Bool×bF×By}{i:Int}(h0:0<=i)(hi:i.toNat<l.length)(hr: ∀s b k,jo l b->0<=k->k.toNat<l.length->TryOk l s (rec s b k)): ∀(vs:List Int) (s:bF) (b:By),jo l b->TryOk l s (jl rec i vs s b)
 | [],s,b,hb=>⟨λ_ h=>h,hb⟩
 |v::vs,s,b,hb=>by
  rw[jl];split;·exact s4 h0 hi hr vs s b hb
  ·split;·exact⟨λw hw=>sees_up.2 (.inr hw),hb.up h0 hi⟩
   ·rename_i k hk;have hk2:=hb _ (fk hk);have h1:=hr (upA s v true) b k hb hk2.1 hk2.2;split
    ·rename_i s2 b2 e;rw[e]at h1;exact⟨λw hw=>h1.seen w (sees_up.2 (.inr hw)),h1.byIn.up h0 hi⟩
    ·rename_i s2 b2 e;rw[e]at h1;have h2:=s4 h0 hi hr vs s2 b2 h1.byIn;exact⟨λw hw=>h2.seen w (h1.seen w (sees_up.2 (.inr hw))),h2.byIn⟩
theorem oF (l:List (List Int)): ∀(f:Nat) (i:Int) (s:bF) (b:By),0<=i->i.toNat<l.length->jo l b->TryOk l s (fO l f i s b)
 |0,i,s,b,_,_,hb=>⟨λ_ h=>h,hb⟩
 |f+1,i,s,b,h0,hi,hb=>by
  rw[fO];exact s4 h0 hi (λs b k hb h1 h2=>oF l f k s b h1 h2 hb) _ _ _ hb
theorem kO {α:Type}{p q:α->Bool}: ∀(l:List α),(∀x,q x=true->p x=true)->(l.filter q).length<=(l.filter p).length
 | [],_=>EO _
 |x::l,h=>by
  have:=kO l h;by_cases hq:q x=true;·rw[Fu hq,Fu (h x hq)];simpa using this
  ·rw[G4 hq];by_cases hp:p x=true;·rw[Fu hp];simp;omega
   ·rw[G4 hp];exact this
theorem rj {l:List (List Int)}{s s2:bF}(h: ∀v,sees s v->sees s2 v):eh l s2<=eh l s:=by
 refine kO _ λv hv=> ?_;by_cases hs:sees s v
 ·have:=h v hs;unfold sees at this;simp[this]at hv
 ·unfold sees at hs;simpa using hs
theorem ri {l:List (List Int)}{s:bF}{v:Int}(hv:v∈l.flatten)(hs: ¬sees s v):eh l (upA s v true)<eh l s:=by
 refine kq _ v (λw hw=> ?_) hv ?_ ?_
 ·by_cases h:sees s w
  ·have:sees (upA s v true) w:=sees_up.2 (.inr h);unfold sees at this;simp[this]at hw
  ·unfold sees at h;simpa using h
 ·unfold sees at hs;simpa using hs
 ·have:sees (upA s v true) v:=sees_up.2 (.inl Y);unfold sees at this;simp[this]
abbrev wm (p2 p5 p6:Value):PV:= .fn (.func 241) [] [.raw p2,.raw p5,.raw p6]
theorem AJ (w:World):(zeroValue 4).run Tryz.prog w= .ok (.bool false) w:=by kernel_rfl
theorem Dt (w:World):(zeroValue 3).run Tryz.prog w= .ok (.int .i64 0) w:=by kernel_rfl
theorem AN (l:List (List Int))(hl:l.length*24<=140737488355328)(hx: ∀x∈l,x.length*8<=140737488355328): ∀(f:Nat) (i:Int) (s:bF) (b:By) (p2 p5 p6 pm pb ps:Value),eh l s<f->0<=i->i.toNat<l.length->jo l b->
  SpecO Tryz.prog 241 false [p2,p5,p6,pm,pb,ps] [.box true [.raw pm],.box true [.raw ps],.box true [wm p2 p5 p6],.box true [bC l,.raw pb],mpB b,mpS s] [.int .i64 i,.raw p2,.raw p5,.raw p6]
   [.box true [.raw pm],.box true [.raw ps],.box true [wm p2 p5 p6],.box true [bC l,.raw pb],mpB (fO l f i s b).2.2,mpS (fO l f i s b).2.1] (λ_=>[]) (λ_=>[.bool (fO l f i s b).1]):=by
 intro f
 induction f with
 |zero=>intro i s b _ _ _ _ _ _ h;omega
 |succ f ihf=>
  intro i s0 b0 p2 p5 p6 pm pb ps hf h0 hi hb0;have hrow:(l.map cL)[i.toNat]? =some (cL (l.getD i.toNat [])):=(by simp[hi]);have hgl:(l.getD i.toNat []).length*8<=140737488355328:=by
   rw[E0,E5 hi];exact hx _ (EA hi)
  have hgm: ∀v∈l.getD i.toNat [],v∈l.flatten:=by
   rw[E0,E5 hi];exact λv hv=>Gq.2 ⟨_,EA hi,hv⟩
  rw[fO];generalize l.getD i.toNat []=vs at*;generalize hR:jl (λs b k=>fO l f k s b) i vs s0 b0=R;refine SpecO.body [1001,1002,1003,1004,1005,1006] [] Tryz.func241 Y Y Y Y λw0 Z1=> ?_;refine T.sub (Rel.derawp (s:=1) (g:=1001) Y Y Y) ?_;refine T.sub (Rel.derawp (s:=2) (g:=1002) Y Y Y) ?_;refine T.sub (Rel.derawp (s:=3) (g:=1003) Y Y Y) ?_;refine T.sub (Rel.fine (s:=0) Y Y) ?_;refine .B ?_;refine J.sub (Rel.derawp (s:=10) (g:=1004) Y Y Y) ?_;refine .B ?_;refine J.i Y Y Y Y Y Y Y Y Y (r:=cL vs) h0 hrow Y ?_;refine .B ?_;refine T.K (T.ind (λx:Nat×bF×By=>⟨[(0,.val true (.int .i64 i)),(1,.optr 0 0 0 0),(2,.optr 1 0 0 0),(3,.optr 2 0 0 0),(16,.val true (aq vs)),(17,.val true (.int .i64 (vs.map cI).length)),(18,.val true (.int .i64 x.1)),(1001,.eq p2 0),(1002,.eq p5 1),(1003,.eq p6 2),(1004,.eq pm 3),(1005,.eq pb 4),(1006,.eq ps 5)],
    [(0,some (.box true [.raw pm])),(1,some (.box true [.raw ps])),(2,some (.box true [wm p2 p5 p6])),(3,some (.box true [bC l,.raw pb])),(4,some (mpB x.2.2)),(5,some (mpS x.2.1))],6⟩)
   (λx=>x.1<=vs.length/\jl (λs b k=>fO l f k s b) i (vs.drop x.1) x.2.1 x.2.2=R/\eh l x.2.1<f+1/\jo l x.2.2) (λx=>vs.length-x.1) (0,s0,b0) ⟨by simp,hR,hf,hb0⟩ (λ_ _ h=>h) ?_)
  rintro⟨k,s,b⟩ ⟨hk,hR,hu,hb⟩ ih;simp only at hk hR hu hb;dsimp only;refine .B ?_;refine T.cd Y (λh1=> ?_) (λh1=> ?_)
  rotate_left
  ·have h1:k=vs.length:=(by simp at h1;omega);subst h1;rw[FR,jl]at hR;subst hR;refine .B ?_;exact⟨[0,1,2,3,4,5],[],[],⟨rfl,rfl,rfl,rfl,rfl,rfl,rfl,rfl,rfl,rfl,rfl,rfl,rfl,rfl,rfl,rfl,rfl,rfl,trivial⟩,trivial,rfl,.v Y Y Y (λ_=>rfl) .nil⟩
  have h1:k<vs.length:=(by simpa using h1);rw[EP h1,jl]at hR;have hvm:=hgm _ (EA h1);generalize hv:vs[k]=v at*;have hvr:(vs.map cI)[((k:Nat):Int).toNat]? =some (cI v):=(by rw[<-hv];exact ax h1);have next: ∀s2 b2,jl (λs b k=>fO l f k s b) i (vs.drop (k+1)) s2 b2=R->eh l s2<f+1->jo l b2->_:=λs2 b2 e1 e2 e3=>ih (k+1,s2,b2) ⟨by omega,e1,e2,e3⟩ (by show _-_<_-_;omega)
  dsimp only at next
  have hw1:IntKind.i64.wrap ((k:Int)+1)=((k+1:Nat):Int):=ai (l:=vs.length) h1 hgl;refine .B ?_;refine .F (r:=cI v) hvr ?_;refine J.sub (Rel.deraw (s:=22) (g:=1006) Y Y) ?_;refine .B ?_;refine J.ml v (.bool false) Y Y Y Y Y Y Y Y Y AJ (λ_ _=> .bool _) (oz Tryz.underlying3) (λ_ _ _ h=>cX h) ?_;have hmb:((lkA s v).map PV.bool).getD (.bool false)= .bool ((lkA s v).getD false):=(by cases lkA s v<;>rfl);rw[hmb];by_cases hs:(lkA s v).getD false=true
  ·rw[E6 hs]at hR;rw[hs];refine .B ?_;refine T.ct Y ?_;refine .B ?_;rw[hw1];exact T.K (next s b hR hu hb)
  rw[E4 hs]at hR;rw[eq_false_of_ne_true hs];have hlt:=ri hvm hs;refine .B ?_;refine T.cf Y ?_;refine .B ?_;refine J.sub (Rel.deraw (s:=25) (g:=1006) Y Y) ?_;refine .B ?_;refine J.mu v true Y Y Y Y Y Y Y Y Y Y Y (oz Tryz.underlying3) (λ_ _ _ h=>cX h) Y ?_;refine .B ?_;refine J.sub (Rel.derawp (s:=28) (g:=1004) Y Y Y) ?_;refine .B ?_;refine J.sub (Rel.deraw (s:=31) (g:=1005) Y Y) ?_;refine .B ?_;refine J.ml v (.int .i64 0) Y Y Y Y Y Y Y Y Y Dt (λ_ _=> .int _ _) (oz Tryz.underlying3) (λ_ _ _ h=>cX h) ?_;cases hk2:lkA b v with
  |none=>
   rw[hk2]at hR;simp only at hR;subst hR;refine .B ?_;refine T.ct Y ?_;refine .B ?_;refine J.sub (Rel.derawp (s:=43) (g:=1004) Y Y Y) ?_;refine .B ?_;refine J.sub (Rel.deraw (s:=46) (g:=1005) Y Y) ?_;refine .B ?_;refine J.mu v i Y Y Y Y Y Y Y Y Y Y Y (oz Tryz.underlying3) (λ_ _ _ h=>cX h) Y ?_;refine .B ?_;exact⟨[0,1,2,3,4,5],[],[],⟨rfl,rfl,rfl,rfl,rfl,rfl,rfl,rfl,rfl,rfl,rfl,rfl,rfl,rfl,rfl,rfl,rfl,rfl,trivial⟩,trivial,rfl,.v Y Y Y (λ_=>rfl) .nil⟩
  |some q=>
   rw[hk2]at hR;simp only at hR;have hq:=hb _ (fk hk2);have hrec:=ihf q (upA s v true) b p2 p5 p6 pm pb ps (by omega) hq.1 hq.2 hb;have hok:=oF l f q (upA s v true) b hq.1 hq.2 hb;refine .B ?_;refine J.co (qs:=[0,1,2,3,4,5]) (cs2:=[.box true [.raw pm],.box true [.raw ps],.box true [wm p2 p5 p6],.box true [bC l,.raw pb],mpB b,mpS (upA s v true)]) true [1001,1002,1003,1004,1005,1006] [] Y Y Y Y Y Y hrec ⟨rfl,rfl,rfl,rfl,rfl,rfl,rfl,rfl,rfl,rfl,rfl,rfl,trivial⟩ Y Y Y Y Y Y Y λns hns=> ?_;obtain rfl:ns=[]:=EQ hns;generalize hT:fO l f q (upA s v true) b=TR at*;obtain⟨r,s2,b2⟩:=TR;have hsu:eh l s2<f+1:=by
    have:=rj (l:=l) hok.seen;dsimp only at this;omega
   have hby:jo l b2:=hok.byIn;dsimp only;refine .B ?_;cases r with
   |false=>
    refine .B ?_;refine T.cf Y ?_;refine .B ?_;rw[hw1];exact T.K (next s2 b2 hR hsu hby)
   |true=>
    simp only at hR;subst hR;refine T.ct Y ?_;refine .B ?_;refine J.sub (Rel.derawp (s:=43) (g:=1004) Y Y Y) ?_;refine .B ?_;refine J.sub (Rel.deraw (s:=46) (g:=1005) Y Y) ?_;refine .B ?_;refine J.mu v i Y Y Y Y Y Y Y Y Y Y Y (oz Tryz.underlying3) (λ_ _ _ h=>cX h) Y ?_;refine .B ?_;exact⟨[0,1,2,3,4,5],[],[],⟨rfl,rfl,rfl,rfl,rfl,rfl,rfl,rfl,rfl,rfl,rfl,rfl,rfl,rfl,rfl,rfl,rfl,rfl,trivial⟩,trivial,rfl,.v Y Y Y (λ_=>rfl) .nil⟩
abbrev mw (l:List (List Int))(i:Int)(b:By):Bool×bF×By:=fO l (l.flatten.length+1) i [] b
theorem o5 (l:List (List Int)):eh l []<l.flatten.length+1:=Nat.lt_succ_of_le (Ez _ _)
theorem Aj (l:List (List Int))(hl:l.length*24<=140737488355328)(hx: ∀x∈l,x.length*8<=140737488355328)(i:Int)(b:By)(pm pb:Value)(h0:0<=i)(hi:i.toNat<l.length)(hb:jo l b):
  SpecO Tryz.prog 225 false [pm,pb] [.box true [bC l,.raw pb],mpB b] [.raw pm,.int .i64 i] [.box true [bC l,.raw pb],mpB (mw l i b).2.2] (λ_=>[]) (λ_=>[.bool (mw l i b).1]):=by
 refine SpecO.body [1001,1002] [] Tryz.func225 Y Y Y Y λw0 Z1=> ?_;refine T.sub (Rel.fine (s:=0) Y Y) ?_;refine T.sub (Rel.fine (s:=1) Y Y) ?_;refine T.canon (keep:=[0,1,1001,1002]) (os:=[1001,1002]) Y ?_;refine .B ?_;refine J.mm Y Y Y Y ?_;refine .L ?_;refine J.name 1003 (s:=7) Y Y Y λps=> ?_;refine J.sub (Rel.raw (s:=7) (g:=1003) Y (.inl Y) Y Y Y) ?_;refine .X ?_;refine .L ?_;refine .B ?_;refine J.name 1004 (s:=2) Y Y Y λp2=> ?_;refine J.name 1005 (s:=5) Y Y Y λp5=> ?_;refine J.name 1006 (s:=6) Y Y Y λp6=> ?_;refine J.sub (Rel.raw (s:=2) (g:=1004) Y (.inr Y) Y Y Y) ?_;refine J.sub (Rel.raw (s:=5) (g:=1005) Y (.inr Y) Y Y Y) ?_;refine J.sub (Rel.raw (s:=6) (g:=1006) Y (.inr Y) Y Y Y) ?_;refine .B ?_;refine J.sub (Rel.derawp (s:=6) (g:=1006) Y Y Y) ?_;refine J.sub (Rel.fineF (s:=8) Y Y Y) ?_;refine .X ?_;refine J.co (qs:=[2,4,5,0,1,3]) (cs2:=[.box true [.raw pm],.box true [.raw ps],.box true [wm p2 p5 p6],.box true [bC l,.raw pb],mpB b,mpS []]) true [1004,1005,1006,1001,1002,1003] [] Y Y Y Y Y Y (AN l hl hx (l.flatten.length+1) i [] b p2 p5 p6 pm pb ps (o5 l) h0 hi hb) ⟨rfl,rfl,rfl,rfl,rfl,rfl,rfl,rfl,rfl,rfl,rfl,rfl,trivial⟩ Y Y Y Y Y Y Y λns hns=> ?_;obtain rfl:ns=[]:=EQ hns;refine .B ?_;exact⟨[0,1],[],[],⟨rfl,rfl,rfl,rfl,rfl,rfl,trivial⟩,trivial,rfl,.v Y Y Y (λ_=>rfl) .nil⟩
def eG (l:List (List Int)):Nat->Nat->By->Option By
 |0,_,b=>some b
 |n+1,i,b=>match mw l (i:Nat) b with
  |(true,_,b2)=>eG l n (i+1) b2
  |(false,_,_)=>none
def dA (l:List (List Int)):Option By:=eG l l.length 0 []
theorem l5 (l:List (List Int))(hl:l.length*24<=140737488355328)(hx: ∀x∈l,x.length*8<=140737488355328):
  SpecO Tryz.prog 183 true [] [] [bC l] [] (λns=>match dA l with|some b=>[.box true [bC l,.raw (ns.getD 1 undef)],mpB b]|none=>[]) (λns=>match dA l with|some b=>[.raw (ns.getD 0 undef),.bool true]|none=>[.nilp,.bool false]):=by
 generalize hR:dA l=R;refine SpecO.body [] (match R with|some _=>[1003,1001]|none=>[]) Tryz.func183 Y Y Y Y λw0 Z1=> ?_;refine T.canon (keep:=[0]) (os:=[]) Y ?_;refine .B ?_;refine J.mm Y Y Y Y ?_;refine J.name 1001 (s:=7) Y Y Y λpb=> ?_;refine J.sub (Rel.raw (s:=7) (g:=1001) Y (.inl Y) Y Y Y) ?_;refine .B ?_;refine T.name 1003 (s:=4) Y Y Y λpm=> ?_;refine T.sub (Rel.raw (s:=4) (g:=1003) Y (.inr Y) Y Y Y) ?_;have hlen:(l.map cL).length=l.length:=EB ..;rw[hlen];refine T.K (T.ind (λx:Nat×By=>⟨[(4,.val true (.raw pm)),(11,.val true (.int .i64 l.length)),(12,.val true (.int .i64 x.1)),(1001,.eq pb 0),(1003,.eq pm 1)],
    [(0,some (mpB x.2)),(1,some (.box true [bC l,.raw pb]))],2⟩)
   (λx=>x.1<=l.length/\eG l (l.length-x.1) x.1 x.2=R/\jo l x.2) (λx=>l.length-x.1) (0,[]) ⟨by simp,hR,λp hp=>by cases hp⟩ (λ_ _ h=>h) ?_)
 rintro⟨k,b⟩ ⟨hk,hR,hb⟩ ih;simp only at hk hR hb;dsimp only;refine .B ?_;refine T.cd Y (λh1=> ?_) (λh1=> ?_)
 rotate_left
 ·have h1:k=l.length:=(by simp at h1;omega);subst h1;rw[HJ,eG]at hR;subst hR;refine .B ?_;exact⟨[],[1,0],[pm,pb],trivial,⟨rfl,rfl,rfl,rfl,rfl,rfl,trivial⟩,rfl,.v Y Y Y (λ_=>rfl) (.v Y Y Y (λ_=>rfl) .nil)⟩
 have h1:k<l.length:=(by simpa using h1);rw[show l.length-k=(l.length-(k+1))+1 by omega,eG]at hR;have hok:=oF l (l.flatten.length+1) (k:Nat) [] b (by omega) (by omega) hb;have hsp:=Aj l hl hx (k:Nat) b pm pb (by omega) (by omega) hb;have hw1:IntKind.i64.wrap ((k:Int)+1)=((k+1:Nat):Int):=by
  have:=ai (l:=l.length) h1 (by omega);exact this
 refine .B ?_;refine J.co (qs:=[1,0]) (cs2:=[.box true [bC l,.raw pb],mpB b]) true [1003,1001] [] Y Y Y Y Y Y hsp ⟨rfl,rfl,rfl,rfl,trivial⟩ Y Y Y Y Y Y Y λns hns=> ?_;obtain rfl:ns=[]:=EQ hns;generalize hT:mw l (k:Nat) b=TR at*;rw[show fO l (l.flatten.length+1) (k:Nat) [] b=TR from hT]at hok;obtain⟨r,s2,b2⟩:=TR;dsimp only;refine .B ?_;cases r with
 |false=>
  simp only at hR;subst hR;refine T.ct Y ?_;refine .B ?_;exact⟨[],[],[],trivial,trivial,rfl,.v Y Y Y (λ_=>rfl) (.v Y Y Y (λ_=>rfl) .nil)⟩
 |true=>
  simp only at hR;refine T.cf Y ?_;refine .B ?_;rw[hw1];exact T.K (ih (k+1,b2) ⟨by omega,hR,hok.byIn⟩ (by show _-_<_-_;omega))
def rg (x:List (Int×Int)):List Int:=(vals x).take 4097
theorem re (x:List (Int×Int)):(rg x).length<=4097:=by unfold rg;rw[F0];omega
def listsP (d:aa)(vs:List Int):List (List Int):=vs.map λv=>rg (d.getD v.toNat [])
theorem uz (d:aa)(vs:List Int)(hd:jQ d)(hb: ∀x∈d,InB x)(hx: ∀x∈d,x.length*16<=140737488351232)(hv: ∀v∈vs,0<=v/\v.toNat<d.length)(hl:vs.length*24<=140737488355328):
  Spec Tryz.prog 182 false [ao d,aq vs] [.own 24 1 ((listsP d vs).map cL)]:=by
 refine Spec.body Tryz.func182 Y Y Y λw0 Z0=> ?_;refine .B ?_;refine T.sub (Rel.own0 (s:=5) 24 1 Y) ?_;refine T.K (T.list vs (λn pre post=>⟨[(0,.val false (ao d)),(5,.ref 0),(8,.val false (aq vs)),(9,.val true (.int .i64 (vs.map cI).length)),(10,.val true (.int .i64 n))],[(0,some (.sl 24 1 true ((listsP d pre).map cL)))],1⟩) (λ_ _ h=>h) ?_ ?_)
 ·rintro n pre v post h hn ih;have hlt:=bW h hn;have hvv:=hv v (by rw[h];simp);have hrow:(d.map cD)[v.toNat]? =some (cD (d.getD v.toNat [])):=(by simp[hvv.2]);have hm:d.getD v.toNat []∈d:=(by rw[E0,E5 hvv.2];exact EA hvv.2);have hsp:=(i5 (d.getD v.toNat []) (hb _ hm) (hx _ hm)).frz;have hpl:(listsP d pre).length=pre.length:=EB ..;refine .B ?_;refine T.ct2 Y (bV h hn) ?_;refine .B ?_;refine .F (r:=cI v) (aM h hn) ?_;refine J.i Y Y Y Y Y Y Y Y Y (r:=cD (d.getD v.toNat [])) hvv.1 hrow Y ?_;refine .B ?_;refine .D hsp ?_;refine .Z ?_;refine J.a1 (enc:=cL) (x:=rg (d.getD v.toNat [])) (B:=24) Y Y Y Y Y Y Y Y Y Y Y Y Y Y Y Y Y Y Y Y (by omega) ?_;rw[show listsP d pre++[rg (d.getD v.toNat [])]=listsP d (pre++[v])by simp[listsP]];refine .B ?_;rw[ai hlt (by omega)];exact T.K ih
 ·refine .B ?_;refine T.cf2 Y bj ?_;refine .B ?_;exact⟨_,.o Y Y Y (λ_=> .inl Y) (by simp) .nil⟩
theorem DT {l:List (List Int)}: ∀r∈l.map cL,r.length=1:=λr hr=>by obtain⟨x,_,rfl⟩:=EH.1 hr;rfl
theorem wF (l:List (List Int))(hl:l.length*24<=140737488355328):Spec Tryz.prog 184 true [bC l] [.own 24 1 (l.map cL)]:=by
 refine Spec.body Tryz.func184 Y Y Y λw0 Z0=> ?_;refine .B ?_;refine J.nc Y Y Y Y Y Y Y λb hb=> ?_;refine .B ?_;cases b
 ·refine T.cf Y ?_;refine .B ?_;refine .Q ?_;refine J.a Y Y Y Y Y Y Y Y Y Y Y Y Y Y Y Y Y DT (by show(0+List.length _)*24<=_;simp;omega) ?_;refine .B ?_;exact⟨_,.o Y Y Y (λh=>by cases h) (by simp) .nil⟩
 ·have:l=[]:=(by simpa using hb Y);subst this;refine T.ct Y ?_;refine .B ?_;exact⟨_,.ownN Y .nil⟩
theorem jL (v:Int):Spec Tryz.prog 168 false [.int .i64 v] [.val (.bool (aN v))]:=by
 refine Spec.body Tryz.func168 Y Y Y λw0 Z0=> ?_;refine .B ?_;refine J.g Y Y Y (λh=> ?_) (λh=> ?_)
 ·refine .B ?_;exact⟨_,.v Y Y (by simp[aN,show -1048576<=v from h]) (λ_=>rfl) .nil⟩
 ·refine .B ?_;exact⟨_,.v Y Y (by simp[aN,show¬-1048576<=v from h]) (λ_=>rfl) .nil⟩
theorem Bo (v:Int):Spec Tryz.prog 226 false [.int .i64 v] [.val (.bool (!aN v))]:=by
 refine Spec.body Tryz.func226 Y Y Y λw0 Z0=> ?_;refine .B ?_;refine .D (jL v) ?_;exact r1
def indexP (p:Int->Bool)(l:List Int):Int:=match l.findIdx? p with|some i=>(i:Int)|none=> -1
theorem v8 {p:Int->Bool}{f:FuncId}(l:List Int)(hp: ∀v∈l,Spec Tryz.prog f false [.int .i64 v] [.val (.bool (p v))])(hl:l.length*8<=140737488355328):Spec Tryz.prog 169 false [aq l,.fn (.func f) [] []] [.val (.int .i64 (indexP p l))]:=by
 refine Spec.body Tryz.func169 Y Y Y λw0 Z0=> ?_;refine .B ?_;refine T.K (T.listI l (λpre=> ∀v∈pre,p v=false) (λn pre post=>⟨[(0,.val false (aq l)),(1,.val false (.fn (.func f) [] [])),(7,.val true (.int .i64 (l.map cI).length)),(8,.val true (.int .i64 n))],[],0⟩) (λ_ _ h=>h) (λv hv=>by cases hv) ?_ ?_)
 ·rintro n pre v post h hn hi ih;have hlt:=bW h hn;have hsp:=hp v (by rw[h];simp);refine .B ?_;refine T.ct2 Y (bV h hn) ?_;refine .B ?_;refine .F (r:=cI v) (aM h hn) ?_;refine .D hsp ?_;refine T.cond Y (λh2=> ?_) (λh2=> ?_)
  ·have h2:p v=true:=h2;refine .B ?_;have e:indexP p l=(n:Int):=by
    unfold indexP;rw[h,HE,FG.2 (by simpa using hi),GU,E6 h2];simp[hn]
   rw[e];exact r1
  ·have h2:p v=false:=h2;refine .B ?_;rw[ai hlt (by omega)];exact T.K (ih (by
    intro x hx;rcases EW.1 hx with hx|hx;·exact hi x hx
    ·rw[EI.1 hx];exact h2))
 ·intro hi;have e:indexP p l= -1:=by
   unfold indexP;rw[FG.2 (by simpa using hi)]
  rw[e];refine .B ?_;refine T.cf2 Y bj ?_;refine .B ?_;exact r1
theorem qK {p:Int->Bool}{f:FuncId}(l:List Int)(hp: ∀v∈l,Spec Tryz.prog f false [.int .i64 v] [.val (.bool (p v))])(hl:l.length*8<=140737488355328):Spec Tryz.prog 129 false [aq l,.fn (.func f) [] []] [.val (.bool (l.any p))]:=by
 refine Spec.body Tryz.func129 Y Y Y λw0 Z0=> ?_;refine .B ?_;refine .D (v8 l hp hl) ?_;refine⟨_,.v Y Y ?_ (λ_=>rfl) .nil⟩;simp only[PV.bool.injEq];unfold indexP;cases h:l.findIdx? p with
 |none=>
  have:l.any p=false:=by
   rw[Gl];exact λx hx=>by simpa using FG.1 h x hx
  rw[this];rfl
 |some i=>
  have:l.any p=true:=by
   rw[Fa];obtain⟨h1,h2,_⟩:=Fc.1 h;exact⟨_,EA h1,h2⟩
  rw[this];simp
def gN (out:List (Int×Int))(v:Int):List (Int×Int):=match out.getLast? with
 |none=>out++[(v,v)]
 |some (a,b)=>if b>=v then out else if b=v-1 then out.dropLast++[(a,v)]else out++[(v,v)]
def packG (l:List Int):List (Int×Int):=l.foldl gN []
theorem rJ (v:Int):gN [] v=[(v,v)]:=rfl
theorem iJ (o:List (Int×Int))(a b v:Int):gN (o++[(a,b)]) v=if b>=v then o++[(a,b)]else if b=v-1 then o++[(a,v)]else o++[(a,b)]++[(v,v)]:=by
 unfold gN;rw[Hd];simp
theorem zJ (o:List (Int×Int))(v:Int):(gN o v).length<=o.length+1:=by
 rcases GB o with rfl|⟨o,⟨a,b⟩,rfl⟩;·exact EO _
 ·rw[G1,iJ];split;·simp
  ·split<;>simp
theorem rK (l:List Int):(packG l).length<=l.length:=by
 have: ∀(l:List Int) (o:List (Int×Int)),(l.foldl gN o).length<=o.length+l.length:=by
  intro l
  induction l with
  |nil=>intro o;exact EO _
  |cons v l ih=>intro o;have h1:=ih (gN o v);have h2:=zJ o v;rw[En,El];omega
 have h:=this l [];simp only[Fg,Fy]at h;exact h
theorem xv (l:List Int)(v:Int):packG (l++[v])=gN (packG l) v:=by simp[packG]
theorem u9 {e:TypeId}{fr:Bool}(o:List (Int×Int))(a b v:Int):Own.put (.sl e 2 fr ((o++[(a,b)]).map cR)) o.length 1 2 true [.int .i64 v]=some (.sl e 2 fr ((o++[(a,v)]).map cR)):=by
 have h:((o++[(a,b)]).map cR)[o.length]? =some (cR (a,b)):=(by simp);show(match Nat.beq 2 2,((o++[(a,b)]).map cR)[o.length]? with|true,some r=>(match Nat.ble (1+1) r.length with|true=>some (Own.sl e 2 (fr&&true) (((o++[(a,b)]).map cR).set o.length (putCells r 1 [.int .i64 v])))|false=>none)|_,_=>none)=_;rw[h];show some (Own.sl e 2 (fr&&true) _)=_;rw[I4];congr 2;rw[F4,F4,show o.length=(o.map cR).length+0 by simp,H0 _ _ (by simp)];simp[cR,putCells]
theorem vk (l:List Int)(hv: ∀v∈l,aN v=true)(hl:l.length*16<=140737488355328):Spec Tryz.prog 227 false [aq l] [.own 53 2 ((packG l).map cR)]:=by
 refine Spec.body Tryz.func227 Y Y Y λw0 Z0=> ?_;refine .B ?_;refine T.sub (Rel.own0 (s:=3) 53 2 Y) ?_;refine T.K (T.list l (λn pre post=>⟨[(3,.ref 0),(7,.val false (aq l)),(8,.val true (.int .i64 (l.map cI).length)),(9,.val true (.int .i64 n))],[(0,some (.sl 53 2 true ((packG pre).map cR)))],1⟩) (λ_ _ h=>h) ?_ ?_)
 ·rintro n pre v post h hn ih;have hlt:=bW h hn;have hpl:=rK pre;have hvv: -1048576<=v/\v<=1048576:=(by simpa[aN]using hv v (by rw[h];simp));rw[xv]at ih;refine .B ?_;refine T.ct2 Y (bV h hn) ?_;refine .B ?_;refine .I (r:=cI v) (aM h hn) ?_;generalize packG pre=out at*;refine .B ?_;rcases GB out with rfl|⟨o,⟨a,b⟩,rfl⟩
  ·refine J.g Y Y Y (λh2=> ?_) (λh2=> ?_);·simp at h2
   refine .B ?_;refine T.cf Y ?_;refine .B ?_;refine T.cf Y ?_;refine .B ?_;refine .Z ?_;refine J.aR Y Y Y Y Y Y Y Y Y Y Y Y Y Y Y Y Y Y Y (by simp) ?_;refine .B ?_;rw[ai hlt (by omega)];exact T.K ih
  ·rw[G1]at*;rw[iJ]at ih;refine J.g Y Y Y (λh2=> ?_) (λh2=> ?_)
   rotate_left
   ·simp at h2
   have hol:(o.map cR).length+1=(o++[(a,b)]).length:=(by simp);have hlw:IntKind.i64.wrap (((((o++[(a,b)]).map cR).length:Nat):Int)-1)=(o.length:Int):=by
    rw[EB,EZ,af]<;>simp at* <;>omega
   have hro:((o++[(a,b)]).map cR)[((o.length:Nat):Int).toNat]? =some (cR (a,b)):=(by simp);refine .B ?_;rw[hlw];refine J.io Y Y Y Y Y Y Y Y Y (by omega) (by simp) rfl ?_;refine .B ?_;refine J.lo Y Y Y Y Y Y (r:=cR (a,b)) hro Y ?_;refine .B ?_;refine T.cd Y (λh3=> ?_) (λh3=> ?_)
   ·rw[E6 h3]at ih;refine .B ?_;rw[ai hlt (by omega)];exact T.K ih
   rw[E4 h3]at ih;refine .B ?_;refine J.g Y Y Y (λh4=> ?_) (λh4=> ?_)
   rotate_left
   ·simp at h4
   refine .B ?_;rw[hlw];refine J.io Y Y Y Y Y Y Y Y Y (by omega) (by simp) rfl ?_;refine .B ?_;refine J.lo Y Y Y Y Y Y (r:=cR (a,b)) hro Y ?_;refine .B ?_;rw[af (n:=v-1) (by omega) (by omega)];refine T.cd Y (λh5=> ?_) (λh5=> ?_)
   ·rw[E6 h5]at ih;refine .B ?_;rw[hlw];refine J.io Y Y Y Y Y Y Y Y Y (by omega) (by simp) rfl ?_;refine .B ?_;refine J.w Y Y Y Y Y Y Y Y Y (u9 o a b v) ?_;refine .B ?_;rw[ai hlt (by omega)];exact T.K ih
   ·rw[E4 h5]at ih;refine .B ?_;refine .Z ?_;refine J.aR Y Y Y Y Y Y Y Y Y Y Y Y Y Y Y Y Y Y Y (by omega) ?_;refine .B ?_;rw[ai hlt (by omega)];exact T.K ih
 ·refine .B ?_;refine T.cf2 Y bj ?_;refine .B ?_;exact⟨_,.o Y Y Y (λ_=> .inl Y) (by simp) .nil⟩
def aB (d:List (Int×Int)):Prop:=(∀r∈d,r.1<=r.2)/\d.Pairwise λr s=>r.2+2<=s.1
def Up (l:List Int):Prop:=l.Pairwise (· < ·)
theorem cQ {lo hi v:Int}:v∈rng lo hi↔lo<=v/\v<=hi:=by
 simp only[rng,EH,ES];constructor;·rintro⟨k,hk,rfl⟩;omega
 ·intro h;exact⟨(v-lo).toNat,by omega,by omega⟩
theorem be {d:List (Int×Int)}{v:Int}:v∈vals d↔∃r∈d,r.1<=v/\v<=r.2:=by
 simp only[vals,GH,cQ]
theorem uS {lo x:Int}(h:lo<=x+1):rng lo (x+1)=rng lo x++[x+1]:=by
 unfold rng;rw[show(x+1+1-lo).toNat=(x+1-lo).toNat+1 by omega,HQ,F4];simp;omega
theorem cH (x:Int):rng x x=[x]:=by
 unfold rng;rw[show(x+1-x).toNat=1 by omega];simp[HQ]
theorem jx {lo hi:Int}(h:lo<=hi):rng lo hi=lo::rng (lo+1) hi:=by
 unfold rng;rw[show(hi+1-lo).toNat=(hi+1-(lo+1)).toNat+1 by omega,List.range_succ_eq_map,Ek,Fi];simp only[Int.natCast_zero,Int.add_zero,List.cons.injEq,true_and];apply F6;intro a _;simp;omega
theorem A2 {lo hi:Int}(h:hi<lo):rng lo hi=[]:=by
 unfold rng;rw[show(hi+1-lo).toNat=0 by omega];rfl
theorem C7 (lo hi:Int):Up (rng lo hi):=by
 unfold Up rng;rw[H9];exact List.pairwise_lt_range.imp λh=>by omega
theorem aB.tail {r:Int×Int}{d:List (Int×Int)}(h:aB (r::d)):aB d:=⟨λs hs=>h.1 s (.tail _ hs),(Ei.1 h.2).2⟩
theorem bD (r:Int×Int)(d:List (Int×Int)):vals (r::d)=rng r.1 r.2++vals d:=rfl
theorem aG: ∀{d:List (Int×Int)},aB d->Up (vals d)
 | [],_=> .nil
 |r::d,h=>by
  rw[bD];refine G5.2 ⟨C7 _ _,aG h.tail,λa ha b hb=> ?_⟩;obtain⟨s,hs,h1,h2⟩:=be.1 hb;have:=(cQ.1 ha).2;have:=(Ei.1 h.2).1 s hs;omega
theorem k6: ∀(l:List Int) (lo x:Int),lo<=x->Up (x::l)->vals (dn lo x l)=rng lo x++l
 | [],lo,x,_,_=>by simp[dn,vals]
 |y::l,lo,x,hlo,hu=>by
  have h1:=Ei.1 hu;have hxy:=h1.1 y (.head _);simp only[dn];split
  ·rename_i e;rw[k6 l lo y (by omega) h1.2,e,uS (by omega)];simp
  ·rw[bD,k6 l y y (FS _) h1.2,cH];simp
theorem bH {l:List Int}(h:Up l):vals (bX l)=l:=by
 cases l with
 |nil=>rfl
 |cons x l=>rw[bX,k6 l x x (FS _) h,cH];rfl
theorem pN: ∀(l:List Int) (lo x:Int),lo<=x->Up (x::l)->aB (dn lo x l)/\∀r∈dn lo x l,lo<=r.1
 | [],lo,x,h,_=>by simp[dn,aB,h]
 |y::l,lo,x,hlo,hu=>by
  have h1:=Ei.1 hu;have hxy:=h1.1 y (.head _);simp only[dn];split;·exact pN l lo y (by omega) h1.2
  ·obtain⟨h2,h3⟩:=pN l y y (FS _) h1.2;refine⟨⟨λr hr=> ?_,Ei.2 ⟨λr hr=> ?_,h2.2⟩⟩,λr hr=> ?_⟩
   ·rcases ET.1 hr with rfl|hr;·exact hlo
    ·exact h2.1 r hr
   ·have:=h3 r hr;simp only;omega
   ·rcases ET.1 hr with rfl|hr;·exact FS _
    ·have:=h3 r hr;omega
theorem fR {l:List Int}(h:Up l):aB (bX l):=by
 cases l with
 |nil=>exact⟨by simp[bX],.nil⟩
 |cons x l=>exact(pN l x x (FS _) h).1
theorem rL: ∀(n:Nat) (lo x hi:Int) (l:List Int),hi=x+n->(∀y∈l.head?,hi+2<=y)->dn lo x (rng (x+1) hi++l)=(lo,hi)::bX l
 |0,lo,x,hi,l,e,h=>by
  have:hi=x:=(by omega);subst this;rw[A2 (by omega),Ff];cases l with
  |nil=>rfl
  |cons y l=>
   have:=h y Y;simp only[dn];rw[E4 (by omega)];rfl
 |n+1,lo,x,hi,l,e,h=>by
  rw[jx (by omega),Fj,dn,E6 Y];exact rL n lo (x+1) hi l (by omega) h
theorem e9: ∀{d:List (Int×Int)},aB d->bX (vals d)=d
 | [],_=>rfl
 |r::d,h=>by
  have hr:=h.1 r (.head _);rw[bD,jx hr,Fj,bX,rL (r.2-r.1).toNat r.1 r.1 r.2 (vals d) (by omega) ?_,e9 h.tail];intro y hy;have hm:y∈vals d:=List.mem_of_mem_head? hy;obtain⟨s,hs,h1,h2⟩:=be.1 hm;have:=(Ei.1 h.2).1 s hs;omega
theorem fX {d d':List (Int×Int)}(h:aB d)(h':aB d')(e:vals d=vals d'):d=d':=by
 rw[<-e9 h,<-e9 h',e]
theorem yX {v:Int}: ∀{l:List Int},Up l->v∉l->Up (nk v l)
 | [],_,_=>by simp[nk,Up]
 |x::l,h,hn=>by
  have h1:=Ei.1 h;simp only[nk];split
  ·refine Ei.2 ⟨λy hy=> ?_,h⟩;rcases ET.1 hy with rfl|hy;·assumption
   ·have:=h1.1 y hy;omega
  ·refine Ei.2 ⟨λy hy=> ?_,yX h1.2 λh=>hn (.tail _ h)⟩;have hm:y∈insU v l:=(by unfold insU;rw[E4 (show¬v∈l from λh=>hn (.tail _ h))];exact hy);rcases (vZ v y l).1 hm with rfl|hy
   ·have:y≠x:=λe=>hn (e▸.head _);omega
   ·exact h1.1 y hy
theorem CE {v:Int}{l:List Int}(h:Up l):Up (insU v l):=by
 unfold insU;split;·exact h
 ·rename_i hn;exact yX h hn
theorem ca (l:List Int):Up (aT l):=by
 have key: ∀(l out:List Int),Up out->Up (l.foldl (λout v=>insU v out) out):=by
  intro l
  induction l with
  |nil=>intro out h;exact h
  |cons v l ih=>intro out h;exact ih _ (CE h)
 exact key l [] .nil
theorem fo {l:List Int}{p:Int->Bool}(h:Up l):Up (l.filter p):=List.Pairwise.sublist List.filter_sublist h
theorem dF {l:List Int}(h:Up l):l.Nodup:=h.imp λh=>Int.ne_of_lt h
theorem fq {d:List (Int×Int)}(h:aB d):vals d=[]↔d=[]:=by
 cases d with
 |nil=>simp[vals]
 |cons r d=>
  rw[bD,jx (h.1 r (.head _))];simp
theorem mM {r:Int×Int}{d:List (Int×Int)}(h:aB (r::d)): ∃l,vals (r::d)=r.1::l:=by
 rw[bD,jx (h.1 r (.head _))];exact⟨_,rfl⟩
theorem mL {d:List (Int×Int)}(h:aB d)(hne:d≠[]):(vals d).getLast? =some (aP d):=by
 obtain⟨d',r,rfl⟩: ∃d' r,d=d'++[r]:=⟨d.dropLast,d.getLast hne,(List.dropLast_concat_getLast hne).symm⟩;have hr:=h.1 r (by simp);have e:vals (d'++[r])=vals d'++rng r.1 r.2:=(by simp[vals]);rw[e];have e2:rng r.1 r.2=rng r.1 (r.2-1)++[r.2]:=by
  have:=uS (lo:=r.1) (x:=r.2-1) (by omega);rwa[show r.2-1+1=r.2 by omega]at this
 rw[e2,<-F5];simp[aP]
theorem qC {d:List (Int×Int)}(h:aB d)(hne:d≠[]):dq d=(av d,aP d,true):=by
 cases d with
 |nil=>exact EX rfl hne
 |cons r d=>
  obtain⟨l,hl⟩:=mM h;have hlast:=mL h hne;unfold dq;split;·rename_i e;rw[hl]at e;cases e
  ·rename_i x l' e;rw[hl]at e;obtain⟨rfl,rfl⟩:=List.cons.inj e;rw[hl,Gu (by simp)]at hlast;simp only[E9]at hlast;rw[hlast];rfl
theorem gg {d:List (Int×Int)}(h:aB d)(hne:d≠[]):av d∈vals d:=by
 cases d with
 |nil=>exact EX rfl hne
 |cons r d=>obtain⟨l,hl⟩:=mM h;rw[hl];exact .head _
theorem qg {d:List (Int×Int)}(h:aB d)(hne:d≠[]):aP d∈vals d:=He (mL h hne)
theorem mj {d:List (Int×Int)}(h:aB d){v:Int}(hv:v∈vals d):av d<=v:=by
 cases d with
 |nil=>simp[vals]at hv
 |cons r d=>
  obtain⟨l,hl⟩:=mM h;have hu:=aG h;rw[hl]at hu hv;rcases ET.1 hv with rfl|hv;·exact FS _
  ·exact Int.le_of_lt ((Ei.1 hu).1 v hv)
theorem oM {d:List (Int×Int)}(h:aB d){v:Int}(hv:v∈vals d):v<=aP d:=by
 have hne:d≠[]:=λe=>(by rw[e]at hv;simp[vals]at hv);have hu:=aG h;obtain⟨l,hl⟩: ∃l,vals d=l++[aP d]:=by
  have:=mL h hne;obtain⟨l,hl⟩:=List.getLast?_eq_some_iff.1 this;exact⟨l,hl⟩
 rw[hl]at hu hv;rcases EW.1 hv with hv|hv;·exact Int.le_of_lt ((G5.1 hu).2.2 v hv _ (by simp))
 ·simp at hv;omega
theorem dX: ∀{l l':List Int},Up l->Up l'->(∀v,v∈l↔v∈l')->l=l'
 | [],[],_,_,_=>rfl
 | [],y::l',_,_,h=>by have:=(h y).2 (.head _);cases this
 |x::l,[],_,_,h=>by have:=(h x).1 (.head _);cases this
 |x::l,y::l',h1,h2,h=>by
  have a1:=Ei.1 h1;have a2:=Ei.1 h2;have e:x=y:=by
   rcases ET.1 ((h x).1 (.head _))with e|e;·exact e
   ·rcases ET.1 ((h y).2 (.head _))with e2|e2;·exact e2.symm
    ·have:=a2.1 x e;have:=a1.1 y e2;omega
  subst e;congr 1;refine dX a1.2 a2.2 λv=>⟨λhv=> ?_,λhv=> ?_⟩
  ·rcases ET.1 ((h v).1 (.tail _ hv))with rfl|h3;·have:=a1.1 v hv;omega
   ·exact h3
  ·rcases ET.1 ((h v).2 (.tail _ hv))with rfl|h3;·have:=a2.1 v hv;omega
   ·exact h3
theorem pZ {lo hi:Int}: ∀{d:List (Int×Int)},aB d->aB (bJ d [(lo,hi)])/\(∀r∈bJ d [(lo,hi)],∃s∈d,s.1<=r.1/\r.2<=s.2)/\∀v,v∈vals (bJ d [(lo,hi)])↔v∈vals d/\lo<=v/\v<=hi
 | [],_=>by rw[oL];exact⟨⟨by simp,.nil⟩,by simp,by simp[vals]⟩
 |x::d,h=>by
  obtain⟨h1,h2,h3⟩:=pZ (lo:=lo) (hi:=hi) h.tail;have hx:=h.1 x (.head _);have hp:=(Ei.1 h.2).1;have hvd: ∀v∈vals d,x.2+2<=v:=λv hv=>by
   obtain⟨s,hs,h4,h5⟩:=be.1 hv;have:=hp s hs;omega
  rw[iO,oK];have tailOk:aB (if x.2<hi then bJ d [(lo,hi)]else [])/\(∀r∈(if x.2<hi then bJ d [(lo,hi)]else []),∃s∈d,s.1<=r.1/\r.2<=s.2)/\∀v,v∈vals (if x.2<hi then bJ d [(lo,hi)]else [])↔v∈vals d/\lo<=v/\v<=hi:=by
   split;·exact⟨h1,h2,h3⟩
   ·refine⟨⟨by simp,.nil⟩,by simp,λv=>⟨λh=>by simp[vals]at h,λh=> ?_⟩⟩;have:=hvd v h.1;omega
  generalize (if x.2<hi then bJ d [(lo,hi)]else [])=t at*;obtain⟨t1,t2,t3⟩:=tailOk;split
  ·rename_i hc;refine⟨⟨λr hr=> ?_,?_⟩,λr hr=> ?_,λv=> ?_⟩
   ·rcases ET.1 hr with rfl|hr;·exact hc
    ·exact t1.1 r hr
   ·refine Ei.2 ⟨λr hr=> ?_,t1.2⟩;obtain⟨s,hs,h5,h6⟩:=t2 r hr;have:=hp s hs;simp only;omega
   ·rcases ET.1 hr with rfl|hr;·exact⟨x,.head _,by simp only;omega,by simp only;omega⟩
    ·obtain⟨s,hs,h5,h6⟩:=t2 r hr;exact⟨s,.tail _ hs,h5,h6⟩
   ·rw[List.singleton_append,bD,bD,EW,EW,cQ,cQ,t3];constructor
    ·rintro(h7|h7);·exact⟨.inl (by omega),by omega,by omega⟩
     ·exact⟨.inr h7.1,h7.2⟩
    ·rintro⟨h7|h7,h8⟩;·exact .inl (by simp only;omega)
     ·exact .inr ⟨h7,h8⟩
  ·rename_i hc;rw[Ff];refine⟨t1,λr hr=> ?_,λv=> ?_⟩
   ·obtain⟨s,hs,h5,h6⟩:=t2 r hr;exact⟨s,.tail _ hs,h5,h6⟩
   ·rw[bD,EW,cQ,t3];constructor;·exact λh7=>⟨.inr h7.1,h7.2⟩
    ·rintro⟨h7|h7,h8⟩;·omega
     ·exact⟨h7,h8⟩
theorem bR {d:List (Int×Int)}(h:aB d)(lo hi:Int):aB (domCut d lo hi)/\∀v,v∈vals (domCut d lo hi)↔v∈vals d/\lo<=v/\v<=hi:=by
 unfold domCut;split;·exact⟨⟨by simp,.nil⟩,λv=>⟨λh=>by simp[vals]at h,λh=>by omega⟩⟩
 ·exact⟨(pZ h).1,(pZ h).2.2⟩
theorem mE {d:List (Int×Int)}(h:aB d)(lo hi:Int):aB (cutR d lo hi)/\∀v,v∈vals (cutR d lo hi)↔v∈vals d/\lo<=v/\v<=hi:=by
 have hu:=fo (p:=λv=>decide (lo<=v)&&decide (v<=hi)) (aG h);exact⟨fR hu,λv=>by rw[cutR,bH hu];simp⟩
theorem ya {d:List (Int×Int)}(h:aB d){lo hi lo' hi':Int}(he: ∀v∈vals d,(lo<=v/\v<=hi↔lo'<=v/\v<=hi')):domCut d lo hi=cutR d lo' hi':=by
 obtain⟨h1,h2⟩:=bR h lo hi;obtain⟨h3,h4⟩:=mE h lo' hi';refine fX h1 h3 (dX (aG h1) (aG h3) λv=> ?_);rw[h2,h4];exact⟨λ⟨a,b⟩=>⟨a,(he v a).1 b⟩,λ⟨a,b⟩=>⟨a,(he v a).2 b⟩⟩
theorem j0 {d:List (Int×Int)}(h:aB d):(vals d).length=1↔∃x,d=[(x,x)]:=by
 constructor
 ·intro hl;obtain⟨x,hx⟩:=Gz.1 hl;exact⟨x,by rw[<-e9 h,hx];rfl⟩
 ·rintro⟨x,rfl⟩;rw[bD,cH];rfl
theorem r9 {d:List (Int×Int)}(h:aB d):(d≠[]/\av d=aP d)↔∃x,d=[(x,x)]:=by
 constructor
 ·rintro⟨hne,he⟩;refine(j0 h).1 ?_;have hu:=aG h;have hm:=gg h hne;cases hv:vals d with
  |nil=>rw[hv]at hm;cases hm
  |cons y l=>
   cases l with
   |nil=>rfl
   |cons z l=>
    have h1:=mj h (v:=y) (by rw[hv];simp);have h2:=oM h (v:=z) (by rw[hv];simp);rw[hv]at hu;have:=(Ei.1 hu).1 z (by simp);omega
 ·rintro⟨x,rfl⟩;exact⟨by simp,rfl⟩
theorem qh {a b:Int}{da db:List (Int×Int)}(ha:aB da)(hb:aB db):gC a b da db=true↔a=b∨((vals da).length=1/\da=db):=by
 simp only[gC,Fs,EL,ER,ofD,Prod.mk.injEq];refine or_congr_right ⟨?_,?_⟩
 ·rintro⟨⟨⟨h1,h2⟩,h3⟩,h4,h5⟩;obtain⟨x,rfl⟩:=(r9 ha).1 ⟨Gj h1,h3⟩;obtain⟨y,rfl⟩:=(r9 hb).1 ⟨Gj h2,by omega⟩;refine⟨(j0 ha).2 ⟨x,rfl⟩,?_⟩;have:x=y:=h4;rw[this]
 ·rintro⟨h1,rfl⟩;obtain⟨x,rfl⟩:=(j0 ha).1 h1;exact⟨⟨⟨by simp,by simp⟩,rfl⟩,rfl,rfl⟩
theorem BK {a b:Int}{da db:List (Int×Int)}(ha:aB da)(hb:aB db):gC a b da db=nh a b da db:=by
 rw[GQ,qh ha hb];simp only[nh,Fs,EL,ER];refine or_congr_right (and_congr_right λ_=>⟨λe=>by rw[e],λe=>fX ha hb e⟩)
theorem y6 {d:List (Int×Int)}(h:aB d)(hv: ∀v∈vals d,-1048576<=v/\v<=1048576):InB d:=by
 intro r hr;have h1:=h.1 r hr;have h2:=hv r.1 (be.2 ⟨r,hr,FS _,h1⟩);have h3:=hv r.2 (be.2 ⟨r,hr,h1,FS _⟩);omega
theorem bN: ∀{d:List (Int×Int)},aB d->d.length<=(vals d).length
 | [],_=>by simp
 |r::d,h=>by
  have:=bN h.tail;have hr:=h.1 r (.head _);rw[bD,jx hr];simp only[El,EZ];omega
structure Fine (d:List (Int×Int)):Prop where
 ok:aB d
 val: ∀v∈vals d,-1048576<=v/\v<=1048576
 few:(vals d).length*16+1048576<=140737488355328
theorem Fine.domB {d:List (Int×Int)}(h:Fine d):DomB d:=⟨y6 h.ok h.val,by have:=h.few;omega,by have:=h.few;have:=bN h.ok;omega⟩
theorem Fine.len {d:List (Int×Int)}(h:Fine d):d.length*16+1048576<=140737488355328:=by have:=h.few;have:=bN h.ok;omega
theorem cq {l l':List Int}(h:Up l)(hs: ∀v∈l,v∈l'):l.length<=l'.length:=(dF h).length_le_of_subset hs
theorem Fine.cut {d d':List (Int×Int)}(h:Fine d)(h':aB d')(hs: ∀v∈vals d',v∈vals d):Fine d':=
 ⟨h',λv hv=>h.val v (hs v hv),by have:=h.few;have:=cq (aG h') hs;omega⟩
theorem fu {p:Nat->Bool}{h j:Nat}(hj:j<dJ p h):p j=true:=by
 unfold dJ at hj;cases hf:(List.range h).find? (λk=> !p k)with
 |none=>
  rw[hf]at hj;have:=GV.1 hf j (ES.2 (by simpa using hj));simpa using this
 |some k=>
  rw[hf]at hj;have:=(GD.1 hf).2.2 j (by simpa using hj);simpa using this
theorem gM {p:Nat->Bool}{h:Nat}(hlt:dJ p h<h):p (dJ p h)=false:=by
 unfold dJ at hlt⊢;cases hf:(List.range h).find? (λk=> !p k)with
 |none=>rw[hf]at hlt;simp at hlt
 |some k=>
  have:=(GD.1 hf).1;simpa using this
theorem tV {d:aa}{c:Con}(hc:ConB c)(h:conR d c=0):bG d c/\rightR d c=true:=by
 unfold conR at h;split at h;·cases h
 ·split at h;·cases h
  ·rename_i hu;split at h;·cases h
   ·rename_i hr;exact⟨(sZ hc (by simpa using hu)).1,by simpa using hr⟩
end Go.Proofs.YtopcjbahjjhdmaaGreat
