/- The texts PuQ, FnA, FnB, FnC, FnD, FnE, ItA, ItB, FnF, FnG, FnH, FnI, FnJ, FnK, FnL, FnM, FnN, FuA, FuB, PuL of the workplace, joined. -/
import Derived.Test.YtlcobmehnaeebaaGreatB4
import Derived.Test.YtlcobmehnaeebaaGreatProg
import Derived.RangeFuncBox
import Derived.RangeFuncWrites
import Derived.RangeFuncCalls
import Derived.RangeFuncLeaves
import Derived.Shelf.Abstract
import Derived.WalkKit
import Derived.OwnWalkIn
import Derived.TacticsInMore
import Derived.LoopNIn
import Derived.LoopIn
import Derived.Maps.AppendAt
namespace Go.Proofs.YtlcobmehnaeebaaGreat
set_option linter.unusedVariables false
structure Takes {α:Type}(le:α→α→Prop)(good:α→Prop)(f:α→Option α):Prop where
 less: ∀a a',good a→f a=some a'→good a'∧le a' a
 mono: ∀a a' b,good a→good b→le a b→f a=some a'→∃b',f b=some b'∧le a' b'
structure Order (α:Type)(le:α→α→Prop)(good:α→Prop):Prop where
 refl: ∀a,le a a
 trans: ∀a b c,le a b→le b c→le a c
 anti: ∀a b,good a→good b→le a b→le b a→a=b
section
variable {α γ:Type}{le:α→α→Prop}{good:α→Prop}(O:Order α le good){f:γ→α→Option α}
def Stays (f:γ→α→Option α)(l:List γ)(a:α):Prop:= ∀c∈l,f c a=some a
structure Come (le:α→α→Prop)(good:α→Prop)(f:γ→α→Option α)(l:List γ)(d a:α):Prop where
 fine:good a
 less:le a d
 keep: ∀e,good e→le e d→Stays f l e→le e a
include O in
theorem Come.refl {l:List γ}{d:α}(hd:good d):Come le good f l d d:=⟨hd,O.refl d,fun _ _ h _=>h⟩
include O in
theorem Come.step {l:List γ}{d a a':α}{c:γ}(h:Come le good f l d a)(hc:c∈l)(ht:Takes le good (f c))(he:f c a=some a'):Come le good f l d a':=by
 obtain⟨h1,h2⟩:=ht.less a a' h.fine he
 refine⟨h1,O.trans _ _ _ h2 h.less,fun e ge le_ hs=> ?_⟩
 obtain⟨b',hb,hle⟩:=ht.mono e e a ge h.fine (h.keep e ge le_ hs) (hs c hc)
 rw[he]at hb
 exact Option.some.inj hb▸hle
theorem Come.none {l:List γ}{d a:α}{c:γ}(h:Come le good f l d a)(hc:c∈l)(ht:Takes le good (f c))(he:f c a=none): ¬∃e,good e∧le e d∧Stays f l e:=by
 rintro⟨e,ge,hle,hs⟩
 obtain⟨b',hb,_⟩:=ht.mono e e a ge h.fine (h.keep e ge hle hs) (hs c hc)
 rw[he]at hb;cases hb
def Ends (le:α→α→Prop)(good:α→Prop)(f:γ→α→Option α)(l:List γ)(d:α):Option α→Prop
 |some a=>Come le good f l d a∧Stays f l a
 |none=> ¬∃e,good e∧le e d∧Stays f l e
include O in
theorem Ends.one {l l':List γ}{d:α}{R R':Option α}(hl: ∀c,c∈l↔c∈l')(h:Ends le good f l d R)(h':Ends le good f l' d R'):R=R':=by
 have hst: ∀e,Stays f l e↔Stays f l' e:=fun e=>⟨fun h c hc=>h c ((hl c).2 hc),fun h c hc=>h c ((hl c).1 hc)⟩
 cases R with
 |none=>
  cases R' with
  |none=>rfl
  |some b=>exact absurd ⟨b,h'.1.fine,h'.1.less,(hst b).2 h'.2⟩ h
 |some a=>
  cases R' with
  |none=>exact absurd ⟨a,h.1.fine,h.1.less,(hst a).1 h.2⟩ h'
  |some b=>
   exact congrArg some (O.anti a b h.1.fine h'.1.fine (h'.1.keep a h.1.fine h.1.less ((hst a).1 h.2)) (h.1.keep b h'.1.fine h'.1.less ((hst b).2 h'.2)))
include O in
theorem Ends.less {l l':List γ}{d d' a':α}{R:Option α}(hl: ∀c,c∈l→c∈l')(hd:le d' d)(h:Ends le good f l d R)(h':Ends le good f l' d' (some a')): ∃a,R=some a∧le a' a:=by
 have hs:Stays f l a':=fun c hc=>h'.2 c (hl c hc)
 have hle:=O.trans _ _ _ h'.1.less hd
 cases R with
 |none=>exact absurd ⟨a',h'.1.fine,hle,hs⟩ h
 |some a=>exact⟨a,rfl,h.1.keep a' h'.1.fine hle hs⟩
theorem Ends.keeps {l:List γ}{d e:α}{R:Option α}(h:Ends le good f l d R)(ge:good e)(hle:le e d)(hs:Stays f l e): ∃a,R=some a∧le e a:=by
 cases R with
 |none=>exact absurd ⟨e,ge,hle,hs⟩ h
 |some a=>exact⟨a,rfl,h.1.keep e ge hle hs⟩
theorem Ends.takes {l:List γ}{F:α→Option α}(O:Order α le good)(h: ∀d,good d→Ends le good f l d (F d)):Takes le good F:=by
 refine⟨fun a a' ga he=> ?_,fun a a' b ga gb hle he=> ?_⟩
 ·have:=h a ga
  rw[he]at this
  exact⟨this.1.fine,this.1.less⟩
 ·have h1:=h a ga
  rw[he]at h1
  exact Ends.less O (fun _ h=>h) hle (h b gb) h1
theorem Ends.fix {l:List γ}{F:α→Option α}(O:Order α le good)(h: ∀d,good d→Ends le good f l d (F d)){a:α}(ga:good a):F a=some a↔Stays f l a:=by
 constructor
 ·intro he
  have:=h a ga
  rw[he]at this
  exact this.2
 ·intro hs
  obtain⟨b,hb,hle⟩:=Ends.keeps (h a ga) ga (O.refl a) hs
  have:=h a ga
  rw[hb]at this
  rw[hb,O.anti b a this.1.fine ga this.1.less hle]
end
end Go.Proofs.YtlcobmehnaeebaaGreat
namespace Go.Proofs.YtlcobmehnaeebaaGreat
open Go Go.RowKit
set_option linter.unusedVariables false
set_option maxRecDepth 4000
def valueB (v:Int):Bool:=decide (-1048576≤v∧v≤1048576)
theorem value_spec (v:Int):Spec Tryz.prog 107 false [.int .i64 v] [.val (.bool (valueB v))]:=by
 refine Spec.body Tryz.func107 rfl rfl rfl fun w0 Z0=> ?_
 repeat(refine .A ?_;conv=>whnf)
 refine J.g rfl rfl rfl (fun h=> ?_) (fun h=> ?_)
 ·repeat(refine .A ?_;conv=>whnf)
  exact⟨_,.v rfl rfl (by simp[valueB,show -1048576≤v from h]) (fun _=>rfl) .nil⟩
 ·repeat(refine .A ?_;conv=>whnf)
  exact⟨_,.v rfl rfl (by simp[valueB,show¬-1048576≤v from h]) (fun _=>rfl) .nil⟩
theorem has_spec (l:List Int)(v:Int)(hl:l.length≤9223372036854775806):Spec Tryz.prog 53 false [ints l,.int .i64 v] [.val (.bool (decide (v∈l)))]:=by
 refine Spec.body Tryz.func53 rfl rfl rfl fun w0 Z0=> ?_
 repeat(refine .A ?_;conv=>whnf)
 ·refine T.K (T.ind (fun i:Nat=>⟨[(0,.val false (ints l)),(1,.val false (.int .i64 v)),(5,.val true (.int .i64 i))],[],0⟩) (fun i=>i≤l.length∧∀x∈l.take i,x≠v) (fun i=>l.length-i) 0 (by simp) (fun _ _ h=>h) ?_)
  rintro i ⟨hi,hx⟩ ih
  repeat(refine .A ?_;conv=>whnf)
  refine T.cd rfl (fun h=> ?_) (fun h=> ?_)
  ·simp at h
   repeat(refine .A ?_;conv=>whnf)
   refine J.i rfl rfl rfl rfl rfl rfl rfl rfl rfl (r:=cI l[i]) (by omega) (by simp[h]) rfl ?_
   repeat(refine .A ?_;conv=>whnf)
   refine T.cd rfl (fun h2=> ?_) (fun h2=> ?_)
   ·repeat(refine .A ?_;conv=>whnf)
    exact⟨_,.v rfl rfl (by rw[←h2];simp) (fun _=>rfl) .nil⟩
   ·repeat(refine .A ?_;conv=>whnf)
    rw[wrap_id (by omega) (by omega)]
    refine T.K (ih (i+1) ⟨by omega,?_⟩ (by omega))
    intro x hm
    rw[List.take_succ_eq_append_getElem h]at hm
    simp only[List.mem_append,List.mem_singleton]at hm
    rcases hm with hm|hm
    ·exact hx x hm
    ·rw[hm];exact h2
  ·simp at h
   repeat(refine .A ?_;conv=>whnf)
   refine⟨_,.v rfl rfl ?_ (fun _=>rfl) .nil⟩
   rw[List.take_of_length_le h]at hx
   simp only[PV.bool.injEq,Bool.false_eq,decide_eq_false_iff_not]
   exact fun hm=>hx v hm rfl
def insS (v:Int):List Int→List Int
 | []=>[v]
 |x::xs=>if v<x then v::x::xs else x::insS v xs
def insU (v:Int)(l:List Int):List Int:=if v∈l then l else insS v l
def sortU (l:List Int):List Int:=l.foldl (fun out v=>insU v out) []
theorem insS_length (v:Int): ∀l,(insS v l).length=l.length+1
 | []=>rfl
 |x::xs=>by simp only[insS];split<;>simp[insS_length v xs]
theorem insU_length (v:Int)(l:List Int):(insU v l).length≤l.length+1:=by
 unfold insU;split
 ·omega
 ·rw[insS_length];omega
theorem sortU_length': ∀(l out:List Int),(l.foldl (fun out v=>insU v out) out).length≤out.length+l.length
 | [],out=>by simp
 |v::l,out=>by
  have h1:=sortU_length' l (insU v out)
  have h2:=insU_length v out
  simp only[List.foldl_cons,List.length_cons]
  omega
theorem sortU_length (l:List Int):(sortU l).length≤l.length:=by have:=sortU_length' l [];simpa[sortU]using this
def rng (lo hi:Int):List Int:=(List.range (hi+1-lo).toNat).map (fun k:Nat=>lo+k)
def vals (d:List (Int×Int)):List Int:=d.flatMap fun r=>rng r.1 r.2
def InB (d:List (Int×Int)):Prop:= ∀r∈d,-1048576≤r.1∧r.1≤1048576∧-1048576≤r.2∧r.2≤1048576
theorem snocI {l:List Int}{v:Int}:l.map cI++[(PV.int .i64 v).cells]=(l++[v]).map cI:=by simp[cI,PV.cells]
theorem rng_take (lo:Int)(k:Nat):(List.range (k+1)).map (fun k:Nat=>lo+k)=(List.range k).map (fun k:Nat=>lo+k)++[lo+k]:=by simp[List.range_succ]
theorem values_spec (d:List (Int×Int))(hb:InB d)(hl:(vals d).length*8≤140737488355328)(hd:d.length*16≤140737488355328):Spec Tryz.prog 52 false [dm d] [.own 3 1 ((vals d).map cI)]:=by
 refine Spec.body Tryz.func52 rfl rfl rfl fun w0 Z0=> ?_
 repeat(refine .A ?_;conv=>whnf)
 refine .O ?_
 repeat(refine .A ?_;conv=>whnf)
 refine T.K (T.list d (fun n pre post=>⟨[(0,.val false (dm d)),(3,.ref 0),(4,.val true (.int .i64 n))],[(0,some (.sl 3 1 true ((vals pre).map cI)))],1⟩) (fun _ _ h=>h) ?_ ?_)
 ·rintro n pre x post h hn ih
  have hx:=hb x (by rw[h];simp)
  have hd1:pre.length<d.length:=by rw[h];simp
  have hlen:(vals pre).length+(rng x.1 x.2).length≤(vals d).length:=by rw[h];simp[vals]
  repeat(refine .A ?_;conv=>whnf)
  refine T.ct2 rfl (lt_at h hn) ?_
  repeat(refine .A ?_;conv=>whnf)
  refine .I (r:=cR x) (row_at h hn) ?_
  repeat(refine .A ?_;conv=>whnf)
  refine T.K (T.ind (fun(s:Int×List Int)=>⟨[(0,.val false (dm d)),(4,.val true (.int .i64 n)),(5,.val true (.int .i64 s.1)),(3,.ref 0)],[(0,some (.sl 3 1 true (s.2.map cI)))],1⟩)
   (fun s=> ∃k,k≤(x.2+1-x.1).toNat∧s.1=x.1+k∧s.2=vals pre++(List.range k).map (fun k:Nat=>x.1+k)) (fun s=>(x.2+1-s.1).toNat) (x.1,vals pre) ⟨0,by simp⟩ (fun _ _ h=>h) ?_)
  rintro⟨v,acc⟩ ⟨k,hk,hv,hacc⟩ ih2
  simp only at hv hacc ih2
  repeat(refine .A ?_;conv=>whnf)
  refine .I (r:=cR x) (row_at h hn) ?_
  repeat(refine .A ?_;conv=>whnf)
  refine T.cd rfl (fun h1=> ?_) (fun h1=> ?_)
  ·simp only at h1
   repeat(refine .A ?_;conv=>whnf)
   have hk2:k+1≤(x.2+1-x.1).toNat:=by omega
   have hlr:(rng x.1 x.2).length=(x.2+1-x.1).toNat:=by simp[rng]
   refine .V ?_
   repeat(refine .A ?_;conv=>whnf)
   refine J.a rfl rfl rfl rfl rfl rfl rfl rfl rfl rfl rfl rfl rfl rfl rfl rfl rfl (one_len rfl) (by show(List.length _+1)*8≤_;simp[hacc];omega) ?_
   repeat(refine .A ?_;conv=>whnf)
   rw[wrap_id (by omega) (by omega),snocI]
   exact T.K (ih2 (v+1,acc++[v]) ⟨k+1,hk2,by simp only;omega,by simp only;rw[rng_take,←List.append_assoc,←hacc,←hv]⟩ (by simp only;omega))
  ·simp only at h1
   repeat(refine .A ?_;conv=>whnf)
   rw[wrap1 (at_lt h hn) (by omega)]
   have hk2:k=(x.2+1-x.1).toNat:=by omega
   have e:vals (pre++[x])=acc:=by rw[hacc,hk2];simp[vals,rng]
   rw[e]at ih
   exact T.K ih
 ·repeat(refine .A ?_;conv=>whnf)
  refine T.cf2 rfl lt_end ?_
  repeat(refine .A ?_;conv=>whnf)
  exact⟨_,.o rfl rfl rfl (fun _=> .inl rfl) (by simp) .nil⟩
def insStep (v:Int)(s:List Int×Bool)(x:Int):List Int×Bool:=if s.2=false∧v<x then(s.1++[v]++[x],true)else(s.1++[x],s.2)
def insEnd (v:Int)(s:List Int×Bool):List Int:=if s.2 then s.1 else s.1++[v]
def insF (v:Int)(out:List Int):List Int:=insEnd v (out.foldl (insStep v) ([],decide (v∈out)))
theorem insStep_true (v:Int): ∀(out acc:List Int),out.foldl (insStep v) (acc,true)=(acc++out,true)
 | [],acc=>by simp
 |x::out,acc=>by simp[insStep,insStep_true v out]
theorem insStep_false (v:Int): ∀(out acc:List Int),insEnd v (out.foldl (insStep v) (acc,false))=acc++insS v out
 | [],acc=>by simp[insS,insEnd]
 |x::out,acc=>by
  simp only[List.foldl_cons,insS]
  by_cases h:v<x
  ·rw[if_pos h]
   have:insStep v (acc,false) x=(acc++[v]++[x],true):=by simp[insStep,h]
   rw[this,insStep_true]
   simp[insEnd]
  ·rw[if_neg h]
   have:insStep v (acc,false) x=(acc++[x],false):=by simp[insStep,h]
   rw[this,insStep_false v out (acc++[x])]
   simp
theorem insF_eq (v:Int)(out:List Int):insF v out=insU v out:=by
 unfold insF insU
 by_cases h:v∈out
 ·simp[h,insStep_true,insEnd]
 ·have:=insStep_false v out []
  simpa[h]using this
theorem insStep_len (v:Int): ∀(out:List Int) (s:List Int×Bool),(out.foldl (insStep v) s).1.length≤s.1.length+out.length+1∧((out.foldl (insStep v) s).2=false→(out.foldl (insStep v) s).1.length=s.1.length+out.length)
 | [],s=>by simp
 |x::out,s=>by
  have h:=insStep_len v out (insStep v s x)
  simp only[List.foldl_cons,List.length_cons]
  by_cases hc:s.2=false∧v<x
  ·have e:insStep v s x=(s.1++[v]++[x],true):=by simp[insStep,hc]
   rw[e,insStep_true]
   simp;omega
  ·have e:insStep v s x=(s.1++[x],s.2):=by simp only[insStep,if_neg hc]
   rw[e]at h⊢
   simp at h
   constructor
   ·omega
   ·intro h2;have:=h.2 h2;omega
theorem sorted_spec (l:List Int)(hl:l.length*8≤140737488355328):Spec Tryz.prog 92 false [ints l] [.own 3 1 ((sortU l).map cI)]:=by
 refine Spec.body Tryz.func92 rfl rfl rfl fun w0 Z0=> ?_
 repeat(refine .A ?_;conv=>whnf)
 refine .O ?_
 repeat(refine .A ?_;conv=>whnf)
 refine T.K (T.list l (fun n pre post=>⟨[(0,.val false (ints l)),(3,.ref 0),(4,.val true (.int .i64 n))],[(0,some (.sl 3 1 true ((sortU pre).map cI)))],1⟩) (fun _ _ h=>h) ?_ ?_)
 ·rintro n pre x post h hn ih
  have hlen:=sortU_length pre
  have hlt:=at_lt h hn
  have hsu:sortU (pre++[x])=insF x (sortU pre):=by rw[insF_eq];simp[sortU,List.foldl_append]
  generalize hout:sortU pre=out at*
  repeat(refine .A ?_;conv=>whnf)
  refine T.ct2 rfl (lt_at h hn) ?_
  repeat(refine .A ?_;conv=>whnf)
  refine .O ?_
  repeat(refine .A ?_;conv=>whnf)
  refine .I (r:=cI x) (row_at h hn) ?_
  repeat(refine .A ?_;conv=>whnf)
  refine .C (has_spec out x (by omega)) ?_
  repeat(refine .A ?_;conv=>whnf)
  refine T.K (T.list out (fun k pre2 post2=>⟨[(0,.val false (ints l)),(3,.ref 0),(4,.val true (.int .i64 n)),(5,.ref 1),(6,.val true (.bool (pre2.foldl (insStep x) ([],decide (x∈out))).2)),(7,.val true (.int .i64 k))],
   [(0,some (.sl 3 1 true (out.map cI))),(1,some (.sl 3 1 true ((pre2.foldl (insStep x) ([],decide (x∈out))).1.map cI)))],2⟩) (fun _ _ h=>h) ?_ ?_)
  ·rintro k pre2 y post2 h2 hn2 ih2
   have hlt2:=at_lt h2 hn2
   rw[List.foldl_append,List.foldl_cons,List.foldl_nil]at ih2
   have hsl:=insStep_len x pre2 ([],decide (x∈out))
   generalize hs:pre2.foldl (insStep x) ([],decide (x∈out))=s at*
   obtain⟨nxt,put⟩:=s
   simp only[List.length_nil]at hsl
   repeat(refine .A ?_;conv=>whnf)
   refine T.ct2 rfl (lt_at h2 hn2) ?_
   repeat(refine .A ?_;conv=>whnf)
   cases put
   ·have h9:nxt.length=0+pre2.length:=hsl.2 rfl
    repeat(refine .A ?_;conv=>whnf)
    refine .I (r:=cI x) (row_at h hn) ?_
    repeat(refine .A ?_;conv=>whnf)
    refine J.io rfl rfl rfl rfl rfl rfl rfl rfl rfl (by omega) (by simp;omega) rfl ?_
    refine J.lo rfl rfl rfl rfl rfl rfl (r:=cI y) (row_at h2 hn2) rfl ?_
    repeat(refine .A ?_;conv=>whnf)
    refine T.cd rfl (fun hxy=> ?_) (fun hxy=> ?_)
    ·have e:insStep x (nxt,false) y=(nxt++[x]++[y],true):=by simp[insStep,hxy]
     rw[e]at ih2
     repeat(refine .A ?_;conv=>whnf)
     refine .I (r:=cI x) (row_at h hn) ?_
     repeat(refine .A ?_;conv=>whnf)
     refine .V ?_
     repeat(refine .A ?_;conv=>whnf)
     refine J.a rfl rfl rfl rfl rfl rfl rfl rfl rfl rfl rfl rfl rfl rfl rfl rfl rfl (one_len rfl) (by show(List.length _+1)*8≤_;simp;omega) ?_
     repeat(refine .A ?_;conv=>whnf)
     refine J.io rfl rfl rfl rfl rfl rfl rfl rfl rfl (by omega) (by simp;omega) rfl ?_
     refine J.lo rfl rfl rfl rfl rfl rfl (r:=cI y) (row_at h2 hn2) rfl ?_
     repeat(refine .A ?_;conv=>whnf)
     refine .V ?_
     repeat(refine .A ?_;conv=>whnf)
     refine J.a rfl rfl rfl rfl rfl rfl rfl rfl rfl rfl rfl rfl rfl rfl rfl rfl rfl (one_len rfl) (by show(List.length _+1)*8≤_;simp;omega) ?_
     repeat(refine .A ?_;conv=>whnf)
     rw[wrap1 hlt2 (by omega)]
     rw[snocI,snocI]
     exact T.K ih2
    ·have e:insStep x (nxt,false) y=(nxt++[y],false):=by simp[insStep,hxy]
     rw[e]at ih2
     repeat(refine .A ?_;conv=>whnf)
     refine J.io rfl rfl rfl rfl rfl rfl rfl rfl rfl (by omega) (by simp;omega) rfl ?_
     refine J.lo rfl rfl rfl rfl rfl rfl (r:=cI y) (row_at h2 hn2) rfl ?_
     repeat(refine .A ?_;conv=>whnf)
     refine .V ?_
     repeat(refine .A ?_;conv=>whnf)
     refine J.a rfl rfl rfl rfl rfl rfl rfl rfl rfl rfl rfl rfl rfl rfl rfl rfl rfl (one_len rfl) (by show(List.length _+1)*8≤_;simp;omega) ?_
     repeat(refine .A ?_;conv=>whnf)
     rw[wrap1 hlt2 (by omega),snocI]
     exact T.K ih2
   ·have e:insStep x (nxt,true) y=(nxt++[y],true):=by simp[insStep]
    rw[e]at ih2
    repeat(refine .A ?_;conv=>whnf)
    refine T.cf rfl ?_
    repeat(refine .A ?_;conv=>whnf)
    refine J.io rfl rfl rfl rfl rfl rfl rfl rfl rfl (by omega) (by simp;omega) rfl ?_
    refine J.lo rfl rfl rfl rfl rfl rfl (r:=cI y) (row_at h2 hn2) rfl ?_
    repeat(refine .A ?_;conv=>whnf)
    refine .V ?_
    repeat(refine .A ?_;conv=>whnf)
    refine J.a rfl rfl rfl rfl rfl rfl rfl rfl rfl rfl rfl rfl rfl rfl rfl rfl rfl (one_len rfl) (by show(List.length _+1)*8≤_;simp;omega) ?_
    repeat(refine .A ?_;conv=>whnf)
    rw[wrap1 hlt2 (by omega),snocI]
    exact T.K ih2
  ·have hsl:=insStep_len x out ([],decide (x∈out))
   have hfin:insF x out=insEnd x (out.foldl (insStep x) ([],decide (x∈out))):=rfl
   rw[hsu,hfin]at ih
   generalize hs:out.foldl (insStep x) ([],decide (x∈out))=s at*
   obtain⟨nxt,put⟩:=s
   simp only[List.length_nil]at hsl
   repeat(refine .A ?_;conv=>whnf)
   refine T.cf2 rfl lt_end ?_
   repeat(refine .A ?_;conv=>whnf)
   cases put
   ·have h9:nxt.length=0+out.length:=hsl.2 rfl
    repeat(refine .A ?_;conv=>whnf)
    refine T.ct rfl ?_
    repeat(refine .A ?_;conv=>whnf)
    refine .I (r:=cI x) (row_at h hn) ?_
    repeat(refine .A ?_;conv=>whnf)
    refine .V ?_
    repeat(refine .A ?_;conv=>whnf)
    refine J.a rfl rfl rfl rfl rfl rfl rfl rfl rfl rfl rfl rfl rfl rfl rfl rfl rfl (one_len rfl) (by show(List.length _+1)*8≤_;simp;omega) ?_
    repeat(refine .A ?_;conv=>whnf)
    rw[wrap1 hlt (by omega),snocI]
    exact T.K ih
   ·repeat(refine .A ?_;conv=>whnf)
    refine T.cf rfl ?_
    repeat(refine .A ?_;conv=>whnf)
    rw[wrap1 hlt (by omega)]
    exact T.K ih
 ·repeat(refine .A ?_;conv=>whnf)
  refine T.cf2 rfl lt_end ?_
  repeat(refine .A ?_;conv=>whnf)
  exact⟨_,.o rfl rfl rfl (fun _=> .inl rfl) (by simp) .nil⟩
def packF (lo:Int):Int→List Int→List (Int×Int)
 |x,[]=>[(lo,x)]
 |x,y::ys=>if y=x+1 then packF lo y ys else(lo,x)::packF y y ys
def pack:List Int→List (Int×Int)
 | []=>[]
 |x::xs=>packF x x xs
theorem pack_spec (l:List Int)(hv: ∀v∈l,-4611686018427387904≤v∧v≤4611686018427387904)(hl:l.length*16≤140737488355328):Spec Tryz.prog 90 false [ints l] [.own 47 2 ((pack l).map cR)]:=by
 refine Spec.body Tryz.func90 rfl rfl rfl fun w0 Z0=> ?_
 repeat(refine .A ?_;conv=>whnf)
 refine .O ?_
 repeat(refine .A ?_;conv=>whnf)
 refine T.K (T.ind (fun(s:Nat×Nat×List (Int×Int))=>⟨[(0,.val false (ints l)),(3,.ref 0),(4,.val true (.int .i64 s.2.1)),(5,.val true (.int .i64 s.1))],[(0,some (.sl 47 2 true (s.2.2.map cR)))],1⟩)
  (fun s=>s.1≤l.length∧s.2.1≤s.1∧s.2.2.length≤s.1∧(s.1=l.length→s.2.2=pack l)∧∀x y,l[s.1]? =some x→l[s.2.1]? =some y→s.2.2++packF y x (l.drop (s.1+1))=pack l) (fun s=>l.length-s.1) (0,0,[]) ⟨by simp,by simp,by simp,?_,?_⟩ (fun _ _ h=>h) ?_)
 ·intro h;cases l with
  |nil=>rfl
  |cons x l=>simp at h
 ·intro x y h1 h2
  cases l with
  |nil=>simp at h1
  |cons z l=>simp at h1 h2;subst h1 h2;simp[pack]
 ·rintro⟨i,f,out⟩ ⟨hi,hf,hol,he,hp⟩ ih
  simp only at hi hf hol he hp ih
  dsimp only
  repeat(refine .A ?_;conv=>whnf)
  refine T.cd rfl (fun h=> ?_) (fun h=> ?_)
  ·simp at h
   have hx:=hp l[i] l[f] (by simp) (by simp)
   have hv1:=hv l[i] (by simp)
   repeat(refine .A ?_;conv=>whnf)
   rw[wrap1 h (by omega)]
   refine J.g rfl rfl rfl (fun h2=> ?_) (fun h2=> ?_)
   ·simp at h2
    repeat(refine .N ?_;conv=>whnf)
    refine T.ct rfl ?_
    repeat(refine .N ?_;conv=>whnf)
    refine T.rdm 11 rfl (by kernel_rfl) rfl ?_
    repeat(refine .A ?_;conv=>whnf)
    refine .I (r:=cI l[f]) (row_i (by omega)) ?_
    repeat(refine .A ?_;conv=>whnf)
    refine .I (r:=cI l[i]) (row_i h) ?_
    repeat(refine .A ?_;conv=>whnf)
    refine .V ?_
    repeat(refine .A ?_;conv=>whnf)
    refine J.aR rfl rfl rfl rfl rfl rfl rfl rfl rfl rfl rfl rfl rfl rfl rfl rfl rfl rfl rfl (by omega) ?_
    repeat(refine .A ?_;conv=>whnf)
    rw[wrap1 h (by omega)]
    refine T.K (ih (i+1,i+1,out++[(l[f],l[i])]) ⟨by simp only;omega,by simp only;omega,by simp;omega,fun _=> ?_,fun x y hx1 _=> ?_⟩ (by simp only;omega))
    ·rw[List.drop_of_length_le (by omega)]at hx
     exact hx
    ·simp only at hx1
     rw[List.getElem?_eq_none (by omega)]at hx1
     cases hx1
   ·simp at h2
    repeat(refine .A ?_;conv=>whnf)
    rw[wrap1 h (by omega)]
    have h3:i+1<l.length:=by omega
    refine .I (r:=cI l[i+1]) (row_i h3) ?_
    repeat(refine .A ?_;conv=>whnf)
    refine .I (r:=cI l[i]) (row_i h) ?_
    repeat(refine .N ?_;conv=>whnf)
    rw[List.drop_eq_getElem_cons h3,packF]at hx
    have hv2:=hv l[i+1] (by simp)
    refine T.cd rfl (fun h4=> ?_) (fun h4=> ?_)
    ·rw[wrap_id (by omega) (by omega)]at h4
     rw[if_neg h4]at hx
     repeat(refine .N ?_;conv=>whnf)
     refine T.rdm 11 rfl (by kernel_rfl) rfl ?_
     repeat(refine .A ?_;conv=>whnf)
     refine .I (r:=cI l[f]) (row_i (by omega)) ?_
     repeat(refine .A ?_;conv=>whnf)
     refine .I (r:=cI l[i]) (row_i h) ?_
     repeat(refine .A ?_;conv=>whnf)
     refine .V ?_
     repeat(refine .A ?_;conv=>whnf)
     refine J.aR rfl rfl rfl rfl rfl rfl rfl rfl rfl rfl rfl rfl rfl rfl rfl rfl rfl rfl rfl (by omega) ?_
     repeat(refine .A ?_;conv=>whnf)
     rw[wrap1 h (by omega)]
     refine T.K (ih (i+1,i+1,out++[(l[f],l[i])]) ⟨by simp only;omega,by simp only;omega,by simp;omega,fun h5=> ?_,fun x y hx1 hy1=> ?_⟩ (by simp only;omega))
     ·simp only at h5;omega
     ·simp only[List.getElem?_eq_getElem h3,Option.some.injEq]at hx1 hy1⊢
      subst hx1 hy1
      rw[List.append_assoc]
      exact hx
    ·rw[wrap_id (by omega) (by omega)]at h4
     have h4:l[i+1]=l[i]+1:=Classical.not_not.1 h4
     rw[if_pos h4]at hx
     repeat(refine .A ?_;conv=>whnf)
     rw[wrap1 h (by omega)]
     refine T.K (ih (i+1,f,out) ⟨by simp only;omega,by simp only;omega,by simp only;omega,fun h5=> ?_,fun x y hx1 hy1=> ?_⟩ (by simp only;omega))
     ·simp only at h5;omega
     ·simp only[List.getElem?_eq_getElem h3,Option.some.injEq]at hx1 hy1⊢
      have:f<l.length:=by omega
      rw[List.getElem?_eq_getElem this,Option.some.injEq]at hy1
      subst hx1 hy1
      exact hx
  ·simp at h
   repeat(refine .A ?_;conv=>whnf)
   exact⟨_,.o rfl rfl (by rw[he (by omega)]) (fun _=> .inl rfl) (by simp) .nil⟩
def cutR (d:List (Int×Int))(lo hi:Int):List (Int×Int):=pack ((vals d).filter fun v=>decide (lo≤v)&&decide (v≤hi))
theorem vals_in {d:List (Int×Int)}(hb:InB d): ∀v∈vals d,-1048576≤v∧v≤1048576:=by
 intro v hv
 obtain⟨r,hr,hv⟩:=List.mem_flatMap.1 hv
 obtain⟨h1,h2,h3,h4⟩:=hb r hr
 obtain⟨k,hk,rfl⟩:=List.mem_map.1 hv
 have:=List.mem_range.1 hk
 omega
def DomB (d:List (Int×Int)):Prop:=InB d∧(vals d).length*16≤140737488355328∧d.length*16≤140737488355328
theorem cut_spec (d:List (Int×Int))(lo hi:Int)(hd:DomB d):Spec Tryz.prog 94 false [dm d,.int .i64 lo,.int .i64 hi] [.own 47 2 ((cutR d lo hi).map cR)]:=by
 refine Spec.body Tryz.func94 rfl rfl rfl fun w0 Z0=> ?_
 obtain⟨hb,hd1,hd2⟩:=hd
 have hvb:=vals_in hb
 have hcut:cutR d lo hi=pack ((vals d).filter fun v=>decide (lo≤v)&&decide (v≤hi)):=rfl
 have hval:=(values_spec d hb (by omega) hd2).frz
 generalize vals d=l at*
 repeat(refine .A ?_;conv=>whnf)
 refine .C hval ?_
 repeat(refine .A ?_;conv=>whnf)
 refine .O ?_
 repeat(refine .A ?_;conv=>whnf)
 refine T.K (T.list l (fun n pre post=>⟨[(0,.val false (dm d)),(1,.val false (.int .i64 lo)),(2,.val false (.int .i64 hi)),(7,.val true (ints l)),(8,.ref 0),(9,.val true (.int .i64 n))],[(0,some (.sl 3 1 true ((pre.filter fun v=>decide (lo≤v)&&decide (v≤hi)).map cI)))],1⟩) (fun _ _ h=>h) ?_ ?_)
 ·rintro n pre x post h hn ih
  have hlt:=at_lt h hn
  have hfl:=List.length_filter_le (fun v=>decide (lo≤v)&&decide (v≤hi)) pre
  rw[List.filter_append]at ih
  generalize hf:pre.filter (fun v=>decide (lo≤v)&&decide (v≤hi))=out at*
  repeat(refine .A ?_;conv=>whnf)
  refine T.ct2 rfl (lt_at h hn) ?_
  repeat(refine .A ?_;conv=>whnf)
  refine .I (r:=cI x) (row_at h hn) ?_
  repeat(refine .A ?_;conv=>whnf)
  refine J.g rfl rfl rfl (fun h1=> ?_) (fun h1=> ?_)
  ·repeat(refine .A ?_;conv=>whnf)
   refine .I (r:=cI x) (row_at h hn) ?_
   repeat(refine .A ?_;conv=>whnf)
   refine T.cd rfl (fun h2=> ?_) (fun h2=> ?_)
   ·have e: [x].filter (fun v=>decide (lo≤v)&&decide (v≤hi))=[x]:=by simp[show lo≤x from h1,h2]
    rw[e]at ih
    repeat(refine .A ?_;conv=>whnf)
    refine .I (r:=cI x) (row_at h hn) ?_
    repeat(refine .A ?_;conv=>whnf)
    refine .V ?_
    repeat(refine .A ?_;conv=>whnf)
    refine J.aI rfl rfl rfl rfl rfl rfl rfl rfl rfl rfl rfl rfl rfl rfl rfl rfl rfl rfl rfl (by omega) ?_
    repeat(refine .A ?_;conv=>whnf)
    rw[wrap1 hlt (by omega)]
    exact T.K ih
   ·have e: [x].filter (fun v=>decide (lo≤v)&&decide (v≤hi))=[]:=by simp[h2]
    rw[e,List.append_nil]at ih
    repeat(refine .A ?_;conv=>whnf)
    rw[wrap1 hlt (by omega)]
    exact T.K ih
  ·have e: [x].filter (fun v=>decide (lo≤v)&&decide (v≤hi))=[]:=by simp[show¬lo≤x from h1]
   rw[e,List.append_nil]at ih
   repeat(refine .A ?_;conv=>whnf)
   refine T.cf rfl ?_
   repeat(refine .A ?_;conv=>whnf)
   rw[wrap1 hlt (by omega)]
   exact T.K ih
 ·have hfl:=List.length_filter_le (fun v=>decide (lo≤v)&&decide (v≤hi)) l
  have hfm: ∀v∈l.filter (fun v=>decide (lo≤v)&&decide (v≤hi)),-4611686018427387904≤v∧v≤4611686018427387904:=fun v hv=>by
   have:=hvb v (List.mem_filter.1 hv).1
   omega
  repeat(refine .A ?_;conv=>whnf)
  refine T.cf2 rfl lt_end ?_
  repeat(refine .A ?_;conv=>whnf)
  refine J.cc rfl rfl rfl rfl rfl (pack_spec _ hfm (by omega)) rfl rfl ?_
  repeat(refine .A ?_;conv=>whnf)
  exact⟨_,.o rfl rfl (by rw[hcut]) (fun _=> .inl rfl) (by simp) .nil⟩
theorem insU_mem (v x:Int): ∀l,x∈insU v l↔x=v∨x∈l:=by
 have key: ∀l,x∈insS v l↔x=v∨x∈l:=by
  intro l
  induction l with
  |nil=>simp[insS]
  |cons y l ih=>simp only[insS];split<;>simp[ih];grind
 intro l
 unfold insU
 split
 ·rename_i h;constructor
  ·exact .inr
  ·rintro(rfl|h2)
   ·exact h
   ·exact h2
 ·exact key l
theorem sortU_mem (x:Int)(l:List Int):x∈sortU l↔x∈l:=by
 have key: ∀(l out:List Int),x∈l.foldl (fun out v=>insU v out) out↔x∈out∨x∈l:=by
  intro l
  induction l with
  |nil=>simp
  |cons v l ih=>intro out;rw[List.foldl_cons,ih,insU_mem];simp;grind
 simpa[sortU]using key l []
def endsR (d:List (Int×Int)):Int×Int×Bool:=match vals d with
 | []=>(0,0,false)
 |x::l=>(x,(x::l).getLast (by simp),true)
theorem ends_spec (d:List (Int×Int))(hd:DomB d):Spec Tryz.prog 97 false [dm d] [.val (.int .i64 (endsR d).1),.val (.int .i64 (endsR d).2.1),.val (.bool (endsR d).2.2)]:=by
 refine Spec.body Tryz.func97 rfl rfl rfl fun w0 Z0=> ?_
 obtain⟨hb,hd1,hd2⟩:=hd
 have hval:=(values_spec d hb (by omega) hd2).frz
 unfold endsR
 generalize vals d=l at*
 repeat(refine .A ?_;conv=>whnf)
 refine .C hval ?_
 repeat(refine .A ?_;conv=>whnf)
 cases l with
 |nil=>
  refine T.ct2 rfl rfl ?_
  repeat(refine .A ?_;conv=>whnf)
  exact⟨_,.v rfl rfl rfl (fun _=>rfl) (.v rfl rfl rfl (fun _=>rfl) (.v rfl rfl rfl (fun _=>rfl) .nil))⟩
 |cons x l=>
  refine T.cf2 rfl (by simp;omega) ?_
  repeat(refine .A ?_;conv=>whnf)
  refine .I (r:=cI x) rfl ?_
  repeat(refine .A ?_;conv=>whnf)
  simp only[List.length_map,List.length_cons]at hd1⊢
  rw[wrap_id (by omega) (by omega)]
  have hi:((x::l).map cI)[(((l.length+1:Nat):Int)-1).toNat]? =some (cI ((x::l).getLast (by simp))):=by
   rw[show(((l.length+1:Nat):Int)-1).toNat=(x::l).length-1 by simp]
   rw[List.getElem?_map,←List.getLast?_eq_getElem?,List.getLast?_eq_some_getLast (by simp)]
   rfl
  refine .I (r:=cI ((x::l).getLast (by simp))) hi ?_
  repeat(refine .A ?_;conv=>whnf)
  exact⟨_,.v rfl rfl rfl (fun _=>rfl) (.v rfl rfl rfl (fun _=>rfl) (.v rfl rfl rfl (fun _=>rfl) .nil))⟩
theorem take_same {α:Type}{a b:List α}{i:Nat}(h:a.take i=b.take i)(ha:i<a.length)(hb:i<b.length)(he:a[i]=b[i]):a.take (i+1)=b.take (i+1):=by
 rw[List.take_succ_eq_append_getElem ha,List.take_succ_eq_append_getElem hb,h,he]
theorem nums_spec (a b:List Int)(hl:a.length*8≤140737488355328):Spec Tryz.prog 20 false [ints a,ints b] [.val (.bool (decide (a=b)))]:=by
 refine Spec.body Tryz.func20 rfl rfl rfl fun w0 Z0=> ?_
 repeat(refine .A ?_;conv=>whnf)
 refine T.cd rfl (fun h=> ?_) (fun h=> ?_)
 ·repeat(refine .A ?_;conv=>whnf)
  exact⟨_,.v rfl rfl (by simp only[List.length_map]at h;rw[decide_eq_false];intro e;subst e;exact h rfl) (fun _=>rfl) .nil⟩
 ·have hlen:a.length=b.length:=by simp only[List.length_map,ne_eq,Classical.not_not]at h;omega
  repeat(refine .A ?_;conv=>whnf)
  refine T.K (T.ind (fun i:Nat=>⟨[(0,.val false (ints a)),(1,.val false (ints b)),(5,.val true (.int .i64 i))],[],0⟩) (fun i=>i≤a.length∧a.take i=b.take i) (fun i=>a.length-i) 0 (by simp) (fun _ _ h=>h) ?_)
  rintro i ⟨hi,ht⟩ ih
  repeat(refine .A ?_;conv=>whnf)
  refine T.cd rfl (fun h1=> ?_) (fun h1=> ?_)
  ·simp at h1
   repeat(refine .A ?_;conv=>whnf)
   refine .I (r:=cI a[i]) (row_i h1) ?_
   repeat(refine .A ?_;conv=>whnf)
   refine .I (r:=cI b[i]) (row_i (by omega)) ?_
   repeat(refine .A ?_;conv=>whnf)
   refine T.cd rfl (fun h2=> ?_) (fun h2=> ?_)
   ·repeat(refine .A ?_;conv=>whnf)
    exact⟨_,.v rfl rfl (by rw[decide_eq_false];intro e;subst e;exact h2 rfl) (fun _=>rfl) .nil⟩
   ·repeat(refine .A ?_;conv=>whnf)
    rw[wrap1 h1 (by omega)]
    exact T.K (ih (i+1) ⟨by omega,take_same ht h1 (by omega) (Classical.not_not.1 h2)⟩ (by omega))
  ·simp at h1
   repeat(refine .A ?_;conv=>whnf)
   refine⟨_,.v rfl rfl ?_ (fun _=>rfl) .nil⟩
   rw[List.take_of_length_le (by omega),List.take_of_length_le (by omega)]at ht
   simp[ht]
theorem same_spec (a b:List (Int×Int))(hl:a.length*8≤140737488355328):Spec Tryz.prog 43 false [dm a,dm b] [.val (.bool (decide (a=b)))]:=by
 refine Spec.body Tryz.func43 rfl rfl rfl fun w0 Z0=> ?_
 repeat(refine .A ?_;conv=>whnf)
 refine T.cd rfl (fun h=> ?_) (fun h=> ?_)
 ·repeat(refine .A ?_;conv=>whnf)
  exact⟨_,.v rfl rfl (by simp only[List.length_map]at h;rw[decide_eq_false];intro e;subst e;exact h rfl) (fun _=>rfl) .nil⟩
 ·have hlen:a.length=b.length:=by simp only[List.length_map,ne_eq,Classical.not_not]at h;omega
  repeat(refine .A ?_;conv=>whnf)
  refine T.K (T.ind (fun i:Nat=>⟨[(0,.val false (dm a)),(1,.val false (dm b)),(5,.val true (.int .i64 i))],[],0⟩) (fun i=>i≤a.length∧a.take i=b.take i) (fun i=>a.length-i) 0 (by simp) (fun _ _ h=>h) ?_)
  rintro i ⟨hi,ht⟩ ih
  repeat(refine .A ?_;conv=>whnf)
  refine T.cd rfl (fun h1=> ?_) (fun h1=> ?_)
  ·simp at h1
   repeat(refine .A ?_;conv=>whnf)
   refine .I (r:=cR a[i]) (row_i h1) ?_
   repeat(refine .A ?_;conv=>whnf)
   refine .I (r:=cR b[i]) (row_i (by omega)) ?_
   repeat(refine .A ?_;conv=>whnf)
   refine J.se [a[i].1,a[i].2] [b[i].1,b[i].2] rfl rfl rfl rfl rfl rfl rfl rfl (by kernel_rfl) (by kernel_rfl) (by kernel_rfl) (by kernel_rfl) rfl rfl (.inr rfl) ?_
   repeat(refine .A ?_;conv=>whnf)
   refine T.cond rfl (fun h2=> ?_) (fun h2=> ?_)
   ·repeat(refine .A ?_;conv=>whnf)
    exact⟨_,.v rfl rfl (by rw[decide_eq_false];intro e;subst e;simp at h2) (fun _=>rfl) .nil⟩
   ·repeat(refine .A ?_;conv=>whnf)
    rw[wrap1 h1 (by omega)]
    refine T.K (ih (i+1) ⟨by omega,take_same ht h1 (by omega) ?_⟩ (by omega))
    simp at h2
    exact Prod.ext h2.1 h2.2
  ·simp at h1
   repeat(refine .A ?_;conv=>whnf)
   refine⟨_,.v rfl rfl ?_ (fun _=>rfl) .nil⟩
   rw[List.take_of_length_le (by omega),List.take_of_length_le (by omega)]at ht
   simp[ht]
theorem empty_spec (d:List (List (Int×Int)))(hl:d.length*8≤140737488355328):Spec Tryz.prog 49 false [doms d] [.val (.bool (decide ([]∈d)))]:=by
 refine Spec.body Tryz.func49 rfl rfl rfl fun w0 Z0=> ?_
 repeat(refine .A ?_;conv=>whnf)
 refine T.K (T.listI d (fun pre=>[]∉pre) (fun n pre post=>⟨[(0,.val false (doms d)),(3,.val true (.int .i64 n))],[],0⟩) (fun _ _ h=>h) (by simp) ?_ ?_)
 ·rintro n pre x post h hn hi ih
  have hlt:=at_lt h hn
  repeat(refine .A ?_;conv=>whnf)
  refine T.ct2 rfl (lt_at h hn) ?_
  repeat(refine .A ?_;conv=>whnf)
  refine .I (r:=cD x) (row_at h hn) ?_
  repeat(refine .A ?_;conv=>whnf)
  refine T.cd rfl (fun h1=> ?_) (fun h1=> ?_)
  ·repeat(refine .A ?_;conv=>whnf)
   refine⟨_,.v rfl rfl ?_ (fun _=>rfl) .nil⟩
   have:x=[]:=by simp at h1;exact h1
   rw[h,this];simp
  ·repeat(refine .A ?_;conv=>whnf)
   rw[wrap1 hlt (by omega)]
   refine T.K (ih ?_)
   simp only[List.mem_append,List.mem_singleton,not_or]
   refine⟨hi,fun e=>h1 ?_⟩
   rw[←e];rfl
 ·intro hi
  repeat(refine .A ?_;conv=>whnf)
  refine T.cf2 rfl lt_end ?_
  repeat(refine .A ?_;conv=>whnf)
  exact⟨_,.v rfl rfl (by simp[hi]) (fun _=>rfl) .nil⟩
end Go.Proofs.YtlcobmehnaeebaaGreat
namespace Go.Proofs.YtlcobmehnaeebaaGreat
open Go Go.RowKit Go.Shelf
set_option linter.unusedVariables false
set_option linter.unusedSimpArgs false
attribute [local go_sem] Oper.semAt_some
def KpE (n₀:Nat)(W W':World):Prop:=Below n₀ W W'∧∀(b:Nat) (c:Array Value) (e:TypeId) (fr:Nat×Nat),W.heap[b]? =some (.cells c e fr)→e≠3→e≠24→W'.heap[b]? =some (.cells c e fr)
theorem KpE.refl (n₀:Nat)(W:World):KpE n₀ W W:=⟨Below.refl _ _,fun _ _ _ _ h _ _=>h⟩
theorem KpE.trans {n₀:Nat}{A B C:World}(h:KpE n₀ A B)(k:KpE n₀ B C):KpE n₀ A C:=⟨h.1.trans k.1,fun b c e fr hb h1 h2=>k.2 b c e fr (h.2 b c e fr hb h1 h2) h1 h2⟩
def Gives (P:Program)(g:FuncId)(lb:Array Value)(n₀:Nat)(w:World)(xs:List Int):Prop:= ∀(F:Fence) (n:Nat),F.fn g→F.round=none→1≤n→SeqStopsK F n P g lb (fun x:Int=> #[Value.int .i64 x]) (KpE n₀) (fun ys=>ys=xs) (fun _=>True) xs.length w
theorem rep_ints {w:World}{Z:Nat→Prop}{v:Value}{l:List Int}(h:Rep w Z v (ints l)): ∃(p:Option Addr) (cap:Nat),v= .slice p l.length cap∧(l≠[]→∃b off,p=some ⟨b,off,none⟩∧b<w.heap.size∧∀j (hj:j<l.length),w.cell? ⟨b,off+j,none⟩=some (.int .i64 l[j])):=by
 unfold ints at h
 generalize hp:PV.sl (l.map cI)=p at h
 cases h with
 |nilsl=>
  have:l=[]:=by simpa using hp
  subst this;exact⟨none,0,rfl,fun h=>absurd rfl h⟩
 |slE a cap hc=>
  have:l=[]:=by simpa using hp
  subst this;exact⟨some a,cap,rfl,fun h=>absurd rfl h⟩
 |sl b off cap sz rows xs hz hb h1 h2 h3 h4 h5 h6=>
  have hp:l.map cI=rows:=by simpa using hp
  subst hp
  refine⟨_,cap,by rw[List.length_map],fun _=>⟨b,off,rfl,hb,fun j hj=> ?_⟩⟩
  have e:(l.map cI).flatten=l.map (PV.int .i64):=flat1 _ l
  rw[e]at h6
  obtain⟨v,hv,hr⟩:=h6.get (i:=j) (b:= .int .i64 l[j]) (by simp[hj])
  have:=(h3 j v hv).1
  rw[this]
  cases hr;rfl
 |_=>cases hp
set_option maxRecDepth 100000 in
set_option maxHeartbeats 2000000 in
theorem values1_in (F:Fence)(n:Nat)(h7:F.fn 145)(hro:F.round=none)(hn:1≤n)(l Bs o n₀:Nat)(p:Option Addr)(cap:Nat)(zs:List Int)(hreach:zs.length*8≤140737488351232)(J Jx:List Int→World→Prop)
  (hY: ∀pre x W,J pre W→pre.length<zs.length→YieldAt F (n-1) Tryz.prog l #[.int .i64 x] W fun e W'=>
   (e= .returned (.bool true)∧J (pre++[x]) W'∧KpE n₀ W W')∨(e= .returned (.bool false)∧Jx (pre++[x]) W'))
  (W:World) (hBs:W.cell? ⟨Bs,o,none⟩=some (.slice p zs.length cap)) (hc:zs≠[]→∃b off,p=some ⟨b,off,none⟩∧b<n₀∧∀j (hj:j<zs.length),W.cell? ⟨b,off+j,none⟩=some (.int .i64 zs[j])) (h0:J [] W):
  CallsIn F n Tryz.prog 145 #[.func (.yield l) #[] #[],.pointer (some ⟨Bs,o,none⟩)] W fun e W'=>(∃v,e= .returned v)∧((∃ys,ys=zs∧J ys W')∨(∃pre,True∧Jx pre W')):=by
 refine callsIn_of_wp Tryz.func145 rfl h7 ?_ hro
 simp only[Tryz.ntmps145,List.size_toArray,List.length_cons,List.length_nil,Nat.reduceAdd,Nat.reduceSub,Array.replicate_succ,Array.replicate_zero,List.push_toArray,List.append_toArray,List.nil_append,List.cons_append]
 gi_wp2
 gi_loopw [7] (fun i wr=> ∃k:Nat,k≤zs.length∧i= .int .i64 k∧J (zs.take k) wr∧KpE n₀ W wr)
  (fun i _=>zs.length-(intOf i).toNat)
 case atStart=>exact⟨0,Nat.zero_le _,rfl,h0,KpE.refl _ _⟩
 case round=>
  obtain⟨k,hk,rfl,hJs,hnx⟩:=hrel
  by_cases hlt:k<zs.length
  ·obtain⟨b,off,rfl,hb,hc⟩:=hc (fun e=>by subst e;simp at hlt)
   have hcx:wr.cell? ⟨b,off+k,none⟩=some (.int .i64 zs[k]):=(hnx.1.cell (p:=⟨b,off+k,none⟩) hb).trans (hc k hlt)
   obtain⟨fn,tmps,assign,body,hy,hR⟩:=hY _ zs[k] wr hJs (by simp;omega)
   gi_wp2
   refine hR.mono ?_
   rintro e W3 (⟨rfl,hJ3,hk3⟩|⟨rfl,hJx3⟩)
   ·gi_wp2
    go_roundw
    case rel=>exact⟨k+1,by omega,by simp,by rw[List.take_succ_eq_append_getElem hlt];exact hJ3,hnx.trans hk3⟩
    case measure=>simp[intOf];omega
   ·gi_wp2
    refine bodyPost_ret (results_none rfl _ _ _) rfl ?_
    exact⟨⟨_,rfl⟩,.inr ⟨_,trivial,hJx3⟩⟩
  ·obtain rfl:k=zs.length:=by omega
   rw[List.take_length]at hJs
   gi_wp2
   go_end0
   exact⟨⟨_,rfl⟩,.inl ⟨_,rfl,hJs⟩⟩
theorem rep_dm {w:World}{Z:Nat→Prop}{v:Value}{d:List (Int×Int)}(h:Rep w Z v (dm d)): ∃(p:Option Addr) (cap:Nat),v= .slice p d.length cap∧(d≠[]→∃b off,p=some ⟨b,off,none⟩∧b<w.heap.size∧∀j (hj:j<d.length),w.cell? ⟨b,off+j*2,none⟩=some (.int .i64 d[j].1)∧w.cell? ⟨b,off+j*2+1,none⟩=some (.int .i64 d[j].2)):=by
 unfold dm at h
 generalize hp:PV.sl (d.map cR)=p at h
 cases h with
 |nilsl=>
  have:d=[]:=by simpa using hp
  subst this;exact⟨none,0,rfl,fun h=>absurd rfl h⟩
 |slE a cap hc=>
  have:d=[]:=by simpa using hp
  subst this;exact⟨some a,cap,rfl,fun h=>absurd rfl h⟩
 |sl b off cap sz rows xs hz hb h1 h2 h3 h4 h5 h6=>
  have hp:d.map cR=rows:=by simpa using hp
  subst hp
  refine⟨_,cap,by rw[List.length_map],fun hne=>⟨b,off,rfl,hb,fun j hj=> ?_⟩⟩
  have e: ∀i,i<2→(d.map cR).flatten[j*2+i]? =(cR d[j])[i]? :=fun i hi=>flatten_get (sz:=2) (fun r hr=>by obtain⟨x,_,rfl⟩:=List.mem_map.1 hr;rfl) (by simp[hj]) i hi
  have one: ∀i (x:Int),i<2→(cR d[j])[i]? =some (.int .i64 x)→w.cell? ⟨b,off+(j*2+i),none⟩=some (.int .i64 x):=by
   intro i x hi hx
   obtain⟨v,hv,hr⟩:=h6.get ((e i hi).trans hx)
   rw[(h3 _ v hv).1]
   cases hr;rfl
  exact⟨one 0 _ (by decide) rfl,by have:=one 1 _ (by decide) rfl;rwa[←Nat.add_assoc]at this⟩
 |_=>cases hp
set_option maxRecDepth 100000 in
set_option maxHeartbeats 4000000 in
theorem all1_in (F:Fence)(n:Nat)(h7:F.fn 147)(hro:F.round=none)(hn:1≤n)(l Bs o n₀:Nat)(p:Option Addr)(cap:Nat)(d:List (Int×Int))(hin:InB d)(hreach:d.length*16≤140737488351232)(J Jx:List Int→World→Prop)
  (hY: ∀pre x W,J pre W→pre.length<((vals d).take 4097).length→YieldAt F (n-1) Tryz.prog l #[.int .i64 x] W fun e W'=>
   (e= .returned (.bool true)∧J (pre++[x]) W'∧KpE n₀ W W')∨(e= .returned (.bool false)∧Jx (pre++[x]) W'))
  (W:World) (hW:n₀≤W.heap.size) (hJ:AbidesFrom W.heap.size J) (hBs:W.cell? ⟨Bs,o,none⟩=some (.slice p d.length cap)) (hc:d≠[]→∃b off,p=some ⟨b,off,none⟩∧b<n₀∧∀j (hj:j<d.length),W.cell? ⟨b,off+j*2,none⟩=some (.int .i64 d[j].1)∧W.cell? ⟨b,off+j*2+1,none⟩=some (.int .i64 d[j].2)) (h0:J [] W):
  CallsIn F n Tryz.prog 147 #[.func (.yield l) #[] #[],.pointer (some ⟨Bs,o,none⟩)] W fun e W'=>(∃v,e= .returned v)∧((∃ys,ys=(vals d).take 4097∧J ys W')∨(∃pre,True∧Jx pre W')):=by
 refine callsIn_of_wp Tryz.func147 rfl h7 ?_ hro
 simp only[Tryz.ntmps147,List.size_toArray,List.length_cons,List.length_nil,Nat.reduceAdd,Nat.reduceSub,Array.replicate_succ,Array.replicate_zero,List.push_toArray,List.append_toArray,List.nil_append,List.cons_append]
 gi_wp2
 gi_loopw [3,9] (fun c i wr=> ∃k:Nat,k≤d.length∧i= .int .i64 k∧c= .int .i64 ((vals (d.take k)).take 4097).length∧J ((vals (d.take k)).take 4097) wr∧KpE n₀ W wr)
  (fun _ i _=>d.length-(intOf i).toNat)
 case atStart=>exact⟨0,Nat.zero_le _,rfl,rfl,h0,KpE.refl _ _⟩
 case round=>
  obtain⟨k,hk,rfl,rfl,hJs,hnx⟩:=hrel
  by_cases hlt:k<d.length
  ·obtain⟨b,off,rfl,hb,hc⟩:=hc (fun e=>by subst e;simp at hlt)
   have hc1:wr.cell? ⟨b,off+k*2,none⟩=some (.int .i64 d[k].1):=(hnx.1.cell (p:=⟨b,off+k*2,none⟩) hb).trans (hc k hlt).1
   have hc2:wr.cell? ⟨b,off+k*2+1,none⟩=some (.int .i64 d[k].2):=(hnx.1.cell (p:=⟨b,off+k*2+1,none⟩) hb).trans (hc k hlt).2
   gi_wp2
   have hA:vals (d.take (k+1))=vals (d.take k)++rng d[k].1 d[k].2:=by
    rw[List.take_succ_eq_append_getElem hlt,vals,List.flatMap_append];simp[vals]
   have hall: ∃r,vals d=vals (d.take k)++rng d[k].1 d[k].2++r:=by
    refine⟨vals (d.drop (k+1)),?_⟩
    rw[←hA]
    conv=>lhs;rw[←List.take_append_drop (k+1) d]
    rw[vals,List.flatMap_append];rfl
   have hbd:=hin d[k] (List.getElem_mem hlt)
   have hrl:(rng d[k].1 d[k].2).length=(d[k].2+1-d[k].1).toNat:=by simp[rng]
   have hrg: ∀j (h:j<(rng d[k].1 d[k].2).length),(rng d[k].1 d[k].2)[j]=d[k].1+j:=fun j h=>by simp[rng]
   generalize vals (d.take k)=A at*
   generalize d[k].1=lo at*
   generalize d[k].2=hi at*
   generalize hR:rng lo hi=R at*
   have hX:(wr.alloc (.cells #[.int .i64 lo,.int .i64 hi] 47)).heap[wr.heap.size]? =some (.cells #[.int .i64 lo,.int .i64 hi] 47 (0,0)):=World.alloc_heap_new wr _
   have hJ1:J (A.take 4097) (wr.alloc (.cells #[.int .i64 lo,.int .i64 hi] 47)):=hJ _ wr _ none hJs (World.grownBy_alloc wr _ none) (fun r e=>by cases e)
   have hK1:KpE n₀ W (wr.alloc (.cells #[.int .i64 lo,.int .i64 hi] 47)):=⟨hnx.1.alloc (Nat.le_trans hW hnx.1.size) _,fun b c e fr hb h1 h2=>(Below.heap_alloc _ _ b (Array.getElem?_eq_some_iff.1 (hnx.2 b c e fr hb h1 h2)).1).trans (hnx.2 b c e fr hb h1 h2)⟩
   generalize wr.alloc (.cells #[.int .i64 lo,.int .i64 hi] 47)=W1 at*
   generalize hXe:wr.heap.size=X at*
   gi_loopw [3,6] (fun c v wq=> ∃j:Nat,j≤R.length∧v= .int .i64 (lo+j)∧c= .int .i64 ((A++R.take j).take 4097).length∧J ((A++R.take j).take 4097) wq∧KpE n₀ W wq∧wq.heap[X]? =some (.cells #[.int .i64 lo,.int .i64 hi] 47 (0,0))∧(j=0∨(A++R.take j).length≤4097))
    (fun c v _=>(hi+1-intOf v).toNat)
   case atStart=>exact⟨0,Nat.zero_le _,by simp,by simp,by simpa using hJ1,hK1,hX,.inl rfl⟩
   case round=>
    obtain⟨j,hj,rfl,rfl,hJ2,hK2,hX2,hj4⟩:=hrel
    have hx2:wr.cell? ⟨X,1,none⟩=some (Value.int .i64 hi):=by simp[World.cell?,hX2]
    by_cases hgo:j<R.length∧((A++R.take j).take 4097).length≤4096
    ·obtain⟨hjl,hle⟩:=hgo
     have hle2:(A++R.take j).length≤4096:=by rw[List.length_take]at hle;omega
     have e1:(A++R.take j).take 4097=A++R.take j:=List.take_of_length_le (by omega)
     have e2:(A++R.take (j+1)).take 4097=A++R.take j++[lo+j]:=by
      rw[List.take_succ_eq_append_getElem hjl,hrg j hjl,←List.append_assoc,List.take_of_length_le]
      rw[List.length_append];simp only[List.length_singleton];omega
     obtain⟨r,hr⟩:=hall
     rw[e1]at hJ2⊢
     have hY2:=hY _ (lo+j) wr hJ2 (by
      rw[hr]
      simp only[List.length_take,List.length_append]at hle2⊢
      omega)
     have hlj:lo+j≤hi:=by omega
     have e3:(A++R.take (j+1)).take 4097=(A++R.take (j+1)):=by rw[e2,List.take_succ_eq_append_getElem hjl,hrg j hjl,←List.append_assoc]
     generalize hP:A++R.take j=pre at*
     obtain⟨cn,hcn⟩: ∃cn,pre.length=cn:=⟨_,rfl⟩
     rw[hcn]at hle2⊢
     obtain⟨fn,tmps,assign,body,hy,hR2⟩:=hY2
     gi_wp2
     refine hR2.mono ?_
     rintro e W3 (⟨rfl,hJ3,hk3⟩|⟨rfl,hJx3⟩)
     ·gi_wp2
      go_roundw
      case rel=>exact⟨j+1,by omega,by simp;omega,by rw[e2,List.length_append,hcn];simp,by rw[e2];exact hJ3,hK2.trans hk3,hk3.2 _ _ _ _ hX2 (by decide) (by decide),.inr (by rw[←e3,List.length_take];omega)⟩
      case measure=>simp[intOf];omega
     ·gi_wp2
      refine bodyPost_ret (results_none rfl _ _ _) rfl ?_
      exact⟨⟨_,rfl⟩,.inr ⟨_,trivial,hJx3⟩⟩
    ·have hend:(A++R.take j).take 4097=(A++R).take 4097:=by
      by_cases h1:j<R.length
      ·have h2:4097≤(A++R.take j).length:=by
        have h3: ¬((A++R.take j).take 4097).length≤4096:=fun h=>hgo ⟨h1,h⟩
        rw[List.length_take]at h3;omega
       have h4:A++R=A++R.take j++R.drop j:=by rw[List.append_assoc,List.take_append_drop]
       rw[h4,List.take_append_of_le_length h2]
      ·rw[show R.take j=R from List.take_of_length_le (by omega)]
     have hex: ¬(lo+j≤hi∧(((A++R).take 4097).length:Int)≤4096):=by
      rintro⟨h1,h2⟩
      exact hgo ⟨by omega,by rw[hend];omega⟩
     rw[hend]at hJ2⊢
     have hA2:((A++R).take 4097).length=((vals (d.take (k+1))).take 4097).length:=by rw[hA]
     generalize hcn:((A++R).take 4097).length=cn at*
     rw[←hA]at hJ2
     by_cases h1:lo+j≤hi
     ·have h2: ¬(cn≤4096):=fun h2=>hex ⟨h1,by omega⟩
      have h3:Hid (¬cn≤4096):=h2
      have hA3:Hid (cn=((vals (d.take (k+1))).take 4097).length):=hA2
      clear hex h2 hend hA2 hcn
      gi_wp2
      ·have h4: ¬cn≤4096:=h3
       omega
      ·have hA2:cn=((vals (d.take (k+1))).take 4097).length:=hA3
       exact⟨⟨k+1,by omega,by simp,by rw[hA2],hJ2,hK2⟩,by simp[intOf];omega⟩
     ·gi_wp2
      exact⟨⟨k+1,by omega,by simp,by rw[hA2],hJ2,hK2⟩,by simp[intOf];omega⟩
  ·obtain rfl:k=d.length:=by omega
   rw[List.take_length]at hJs
   gi_wp2
   go_end0
   exact⟨⟨_,rfl⟩,.inl ⟨_,rfl,hJs⟩⟩
theorem values1_gives (Bs o:Nat)(zs:List Int)(hreach:zs.length*8≤140737488351232)(w:World)(u:Value){Z:Nat→Prop}(hu:Rep w Z u (.ptr [ints zs])):Gives Tryz.prog 145 #[u] w.heap.size w zs:=by
 intro F n hF hro hn l J Jx W hW hJ _ hY h0
 cases hu with
 |ptr b o cells xs hz hb h1 h2 h3=>
  cases h3 with
  | @cons v _ vs _ hv _=>
   obtain⟨p,cap,rfl,hc⟩:=rep_ints hv
   have hcell:w.cell? ⟨b,o,none⟩=some (.slice p zs.length cap):=by have:=(h2 0 _ rfl).1;simpa using this
   exact values1_in F n hF hro hn l b o w.heap.size p cap zs hreach J Jx hY W ((hW.cell (p:=⟨b,o,none⟩) hb).trans hcell) (fun hne=>by
    obtain⟨b',off,e,hb',hcs⟩:=hc hne
    exact⟨b',off,e,hb',fun j hj=>(hW.cell (p:=⟨b',off+j,none⟩) hb').trans (hcs j hj)⟩) h0
theorem all1_gives (d:List (Int×Int))(hin:InB d)(hreach:d.length*16≤140737488351232)(w:World)(u:Value){Z:Nat→Prop}(hu:Rep w Z u (.ptr [dm d])):Gives Tryz.prog 147 #[u] w.heap.size w ((vals d).take 4097):=by
 intro F n hF hro hn l J Jx W hW hJ _ hY h0
 cases hu with
 |ptr b o cells xs hz hb h1 h2 h3=>
  cases h3 with
  | @cons v _ vs _ hv _=>
   obtain⟨p,cap,rfl,hc⟩:=rep_dm hv
   have hcell:w.cell? ⟨b,o,none⟩=some (.slice p d.length cap):=by have:=(h2 0 _ rfl).1;simpa using this
   exact all1_in F n hF hro hn l b o w.heap.size p cap d hin hreach J Jx hY W hW.size hJ ((hW.cell (p:=⟨b,o,none⟩) hb).trans hcell) (fun hne=>by
    obtain⟨b',off,e,hb',hcs⟩:=hc hne
    exact⟨b',off,e,hb',fun j hj=>⟨(hW.cell (p:=⟨b',off+j*2,none⟩) hb').trans (hcs j hj).1,(hW.cell (p:=⟨b',off+j*2+1,none⟩) hb').trans (hcs j hj).2⟩⟩) h0
theorem infoI:(Tryz.prog.info? 3).map (fun i=>(i.zero,i.size,i.bytes))=some (some (.int .i64 0),1,8):=by kernel_rfl
theorem kpe_app {W w1:World}{n₀ B:Nat}{v v':Value}{k:Nat}{xs:List Value}{tmp:Obj}(hv:Boxed W B 24 v)(hrow:W.ownsRow n₀ 3 1 v k xs)(hgrow:(W.alloc tmp).grownBy w1 v.ownBlock)
  (b:Nat) (c:Array Value) (e:TypeId) (fr:Nat×Nat) (hb:W.heap[b]? =some (.cells c e fr)) (h1:e≠3) (h2:e≠24):(w1.setCell ⟨B,0,none⟩ v').heap[b]? =some (.cells c e fr):=by
 have hlt:=(Array.getElem?_eq_some_iff.1 hb).1
 have hbB:b≠B:=by
  rintro rfl
  have hv:W.heap[b]? =some (.cells #[v] 24 (0,0)):=hv
  rw[hv]at hb;cases hb;exact h2 rfl
 have ha:(W.alloc tmp).heap[b]? =some (.cells c e fr):=(Below.heap_alloc _ _ b hlt).trans hb
 have hg:w1.heap[b]? =some (.cells c e fr):=by
  refine(hgrow.block b (by simp;omega) fun eb=> ?_).trans ha
  rcases hrow.2 with ⟨rfl,_⟩|⟨g,cap,cur,rfl,_,hgb,_⟩
  ·cases eb
  ·obtain rfl:b=g:=by simpa[Value.ownBlock]using eb
   rw[hgb]at hb;cases hb;exact h1 rfl
 exact((grownBy_setCell' w1 B v').block b (Array.getElem?_eq_some_iff.1 hg).1 (fun e=>hbB (Option.some.inj e))).trans hg
theorem kpe_put {n₀:Nat}(W:World)(l:Nat)(o o':Obj)(hl:n₀≤l)(ho:W.heap[l]? =some o)(h1:o.isCells=false):KpE n₀ W (W.putObj l o'):=by
 refine⟨(Below.refl n₀ W).grown (grownBy_putObj' W l o') (by have:=(Array.getElem?_eq_some_iff.1 ho).1;omega) (fun k e=>by cases e;exact hl),fun b c e fr hb _ _=> ?_⟩
 have hne:l≠b:=by rintro rfl;rw[ho]at hb;cases hb;cases h1
 exact(World.putObj_heap_other (Ne.symm hne)).trans hb
set_option maxRecDepth 100000 in
set_option maxHeartbeats 4000000 in
theorem appendSeq_in (F:Fence)(n:Nat)(hF:F.fn 146)(hro:F.round=none)(hn:3≤n)(g:Nat)(lb:Array Value)(hFg:F.fn g)(eg: ∀args w,(callFunc g args).run Tryz.prog w= .ok (.enter g args) w)(xs:List Int)(hlen:xs.length*8≤140737488355328)(w:World)
  (hs:Gives Tryz.prog g lb w.heap.size w xs):
  CallsIn F n Tryz.prog 146 #[.slice none 0 0,.func (.func g) #[] lb] w fun e W'=> ∃v,e= .returned v∧W'.ownsRow w.heap.size 3 1 v xs.length (xs.map (Value.int .i64))∧Below w.heap.size w W':=by
 have h1:1≤n:=by omega
 obtain⟨i0,hi,hz0,hz1,hz2⟩:=info_parts infoI
 refine callsIn_of_wp_marks Tryz.func146 rfl hF ?_ hro
 simp only[Tryz.ntmps146,List.size_toArray,List.length_cons,List.length_nil,Nat.reduceAdd,Nat.reduceSub,Array.replicate_succ,Array.replicate_zero,List.push_toArray,List.append_toArray,List.nil_append,List.cons_append]
 gi_wp2
 have bO:=Boxed.new w 24 (.slice none 0 0)
 have hB0:Below w.heap.size w (w.alloc (.cells #[.slice none 0 0] 24)):=(Below.refl _ w).alloc (Nat.le_refl _) _
 have hm:maxLen=9223372036854775807:=rfl
 refine wpIn_rangeFunc_ownG hro h1 (gf:=g) (lb:=lb) rfl hFg eg (hs F (n-1) hFg hro (by omega)) KpE.trans (fun W l o o' hl ho h1 _=>kpe_put W l o o' (by simp at hl;omega) ho h1) hB0 (fun _=>rfl)
  (fun(pre:List Int) W=>(∃v,Boxed W w.heap.size 24 v∧W.ownsRow w.heap.size 3 1 v pre.length (pre.map (Value.int .i64))∧True)∧Below w.heap.size w W)
  (fun _ _ _=>False)
  (OwnFrom.and (Own.from (holdsRow_own w.heap.size w.heap.size 24 3 1 (fun pre:List Int=>pre.length) (fun pre:List Int=>pre.map (Value.int .i64)) (fun _ _=>True)) _) (ownFrom_below (Nat.le_refl _) (by simp)))
  (fun _ _ _ _ _ hs _ _=>hs)
  ⟨⟨_,bO,World.ownsRow_nil _ _ _ _,trivial⟩,hB0⟩
  (fun x=> { tmps:= #[.slice none 0 0,.func (.func g) #[] lb,.pointer (some ⟨w.heap.size,0,none⟩),undef,.slice none 0 0,.int .i64 x,.func (.func g) #[] lb,.int .i64 x,undef,undef,undef,undef,undef],defers:=[] }) ?assign ?body ?done ?stop
 case assign=>
  intro l x W K hK
  gi_wp2
  exact hK
 case body=>
  rintro l pre x W ⟨⟨v,hv,hrow,_⟩,hB⟩ hlt
  have hc:=hv.cell
  gi_wp2_with (gi_at_builtin;refine wpListIn_append_own _ rfl _ _ 24 rfl w.heap.size 3 i0 (.int .i64 0) 1 8 Tryz.underlying24 hi hz0 hz1 hz2 rfl (by decide) _ _ _ rfl (hrow.alloc _) ⟨W.heap.size,0,none⟩ 1 1 [.int .i64 x] rfl rfl (cell_one_new _ _ _) (by simp[Value.oneCell']) (by omega) (by omega) (by have:=hB.size;simp;omega) ?_;intro v' w1 hown' hgrow _;obtain⟨g',cap',rfl⟩:=ownsRow_succ hown';obtain⟨hv1,hv2,hr2,hk2,hb2⟩:=hv.appended (by decide) hrow hB.size (Nat.le_refl _) hown' hgrow;have hkp:=kpe_app (v':=Value.slice (some ⟨g',0,none⟩) (pre.length+1) cap') hv hrow hgrow;have hc1:=hv1.cell;have hf1:=hv1.frozen)
  exact⟨hk2.from _,⟨hb2,hkp⟩,⟨_,hv2,by simpa using hr2,trivial⟩,hB.trans hb2⟩
 case done=>
  rintro D ys W hD rfl ⟨⟨v,hv,hrow,_⟩,hB⟩ hK
  have hc:=hv.cell
  gi_wp2
  refine⟨by simp,.inl ⟨_,_,rfl,run_takeDeferred hK,?_⟩⟩
  exact⟨_,results_tmp rfl _ _ _,v,rfl,ownsRow_putObj hrow _ hK rfl,hB.trans (belowK_b (w:=w) (Nat.le_refl _) W D _ _ (by simp at hD;omega) hK rfl rfl)⟩
 case stop=>
  rintro D c pre W _ _ h _
  exact h.elim
theorem collect_in (F:Fence)(n:Nat)(h8:F.fn 120)(hF:F.fn 146)(hro:F.round=none)(hn:4≤n)(g:Nat)(lb:Array Value)(hFg:F.fn g)(eg: ∀args w,(callFunc g args).run Tryz.prog w= .ok (.enter g args) w)(xs:List Int)(hlen:xs.length*8≤140737488355328)(w:World)
  (hs:Gives Tryz.prog g lb w.heap.size w xs):
  CallsIn F n Tryz.prog 120 #[.func (.func g) #[] lb] w fun e W'=> ∃v,e= .returned v∧W'.ownsRow w.heap.size 3 1 v xs.length (xs.map (Value.int .i64))∧Below w.heap.size w W':=by
 have h1:1≤n:=by omega
 refine callsIn_of_wp Tryz.func120 rfl h8 ?_ hro
 simp only[Tryz.ntmps120,List.size_toArray,List.length_cons,List.length_nil,Nat.reduceAdd,Nat.reduceSub,Array.replicate_succ,Array.replicate_zero,List.push_toArray,List.append_toArray,List.nil_append,List.cons_append]
 gi_wp2_with (gi_at_call 146;refine(appendSeq_in F (n-1) hF hro (by omega) g lb hFg eg xs hlen _ hs).mono ?_;rintro e w' ⟨v,rfl,hrow,hb⟩)
 go_ret
 exact⟨v,rfl,hrow,hb⟩
end Go.Proofs.YtlcobmehnaeebaaGreat
namespace Go.Proofs.YtlcobmehnaeebaaGreat
open Go Go.RowKit
set_option linter.unusedVariables false
set_option linter.unusedSimpArgs false
set_option maxRecDepth 8000
theorem own_ints {w w':World}{v:Value}{xs:List Int}{Zx:Nat→Prop}(h:w'.ownsRow w.heap.size 3 1 v xs.length (xs.map (Value.int .i64))):RetRel w w' Zx [v] [.own 3 1 (xs.map cI)]:=by
 have hvb: ∀g,VB v g→w.heap.size≤g:=fun g hg=>(h.lt g ((VB_own h).1 hg)).1
 have hsl: ∀Z:Nat→Prop,SlRel w' Z v 3 1 (xs.map cI):=fun Z=>by
  refine⟨xs.map (Value.int .i64),?_,?_,fun r hr=>by obtain⟨x,_,rfl⟩:=List.mem_map.1 hr;rfl,fun r hr p hp=>by obtain⟨x,_,rfl⟩:=List.mem_map.1 hr;simp[cI]at hp;rw[hp];rfl⟩
  ·rw[List.length_map]
   refine⟨h.1,?_⟩
   rcases h.2 with h2|⟨g,cap,cur,e,_,r⟩
   ·exact .inl h2
   ·exact .inr ⟨g,cap,cur,e,Nat.zero_le _,r⟩
  ·have e:(xs.map cI).flatten=xs.map (PV.int .i64):=flat1 _ xs
   rw[e]
   clear e h hvb
   induction xs with
   |nil=>exact .nil
   |cons x xs ih=>exact .cons (.int _ _) ih
 refine⟨.cons (hsl _) .nil,fun u g hu hg=> ?_,fun i j u u' g hi hj _ _=> ?_⟩
 ·have:u=v:=by simpa[RV.vals]using hu
  exact hvb g (this▸hg)
 ·simp only[RV.vals]at hi hj
  cases i<;>cases j<;>simp_all
theorem collect_spec {g:FuncId}{caps:List PV}{xs:List Int}(eg: ∀args w,(callFunc g args).run Tryz.prog w= .ok (.enter g args) w)(hg: ∀(w:World) (Z:Nat→Prop) (us:List Value),L2 (Rep w Z) us caps→Gives Tryz.prog g us.toArray w.heap.size w xs)(hl:xs.length*8≤140737488355328):
  Spec Tryz.prog 120 false [.fn (.func g) [] caps] [.own 3 1 (xs.map cI)]:=by
 refine⟨⟨_,Tryz.func120,rfl,rfl⟩,fun w Z vs hvs=> ?_⟩
 cases hvs with
 |cons h0 h1=>
  cases h1
  cases h0 with
  |fn f fs us fst cps h2 h3=>
   cases h2
   refine((collect_in Fence.wide 9 trivial trivial rfl (by decide) g us.toArray trivial eg xs hl w (hg w Z us h3)).calls room_wide).mono ?_
   rintro e w' ⟨v,rfl,hrow,hb⟩
   exact⟨[v],rfl,hb,own_ints hrow⟩
theorem dall_spec (d:List (Int×Int)):Spec Tryz.prog 121 true [dm d] [.val (.fn (.func 147) [] [.ptr [dm d]])]:=by
 refine Spec.body Tryz.func121 rfl rfl rfl fun w0 Z0=> ?_
 repeat(refine .A ?_;conv=>whnf)
 refine J.sub (Rel.unbx (s:=1) (fun _ h=>h) rfl rfl) ?_
 refine J.sub (Rel.fp (s:=1) rfl) ?_
 repeat(refine .A ?_;conv=>whnf)
 exact⟨_,.v rfl rfl rfl (fun h=>by cases h) .nil⟩
theorem svals_spec (l:List Int):Spec Tryz.prog 117 true [ints l] [.val (.fn (.func 145) [] [.ptr [ints l]])]:=by
 refine Spec.body Tryz.func117 rfl rfl rfl fun w0 Z0=> ?_
 repeat(refine .A ?_;conv=>whnf)
 refine J.sub (Rel.unbx (s:=1) (fun _ h=>h) rfl rfl) ?_
 refine J.sub (Rel.fp (s:=1) rfl) ?_
 repeat(refine .A ?_;conv=>whnf)
 exact⟨_,.v rfl rfl rfl (fun h=>by cases h) .nil⟩
theorem dvalues_spec (d:List (Int×Int))(hb:InB d)(hd:d.length*16≤140737488351232):Spec Tryz.prog 68 false [dm d] [.own 3 1 (((vals d).take 4097).map cI)]:=by
 refine Spec.body Tryz.func68 rfl rfl rfl fun w0 Z0=> ?_
 have hc:=collect_spec (g:=147) (caps:=[.ptr [dm d]]) (xs:=(vals d).take 4097) (enters_of Tryz.func147 (by kernel_rfl) rfl) (fun w Z us h=>by
  cases h with
  |cons h1 h2=>cases h2;exact all1_gives d hb hd w _ h1) (by rw[List.length_take];omega)
 repeat(refine .A ?_;conv=>whnf)
 refine .C (dall_spec d) ?_
 repeat(refine .A ?_;conv=>whnf)
 refine .C hc ?_
 repeat(refine .A ?_;conv=>whnf)
 exact⟨_,.o rfl rfl rfl (fun _=> .inl rfl) (by simp) .nil⟩
set_option maxRecDepth 4000
theorem lists_spec (d:List (List (Int×Int)))(hl:d.length*24≤140737488355328)(hx: ∀x∈d,x.length*16≤140737488355328):Spec Tryz.prog 28 false [doms d] [.own 45 1 (d.map cD)]:=by
 refine Spec.body Tryz.func28 rfl rfl rfl fun w0 Z0=> ?_
 repeat(refine .A ?_;conv=>whnf)
 refine .O ?_
 repeat(refine .A ?_;conv=>whnf)
 refine T.K (T.list d (fun n pre post=>⟨[(0,.val false (doms d)),(3,.ref 0),(4,.val true (.int .i64 n))],[(0,some (.sl 45 1 true (pre.map cD)))],1⟩) (fun _ _ h=>h) ?_ ?_)
 ·rintro n pre x post h hn ih
  have hlt:=at_lt h hn
  have hxl:=hx x (by rw[h];simp)
  repeat(refine .A ?_;conv=>whnf)
  refine T.ct2 rfl (lt_at h hn) ?_
  repeat(refine .A ?_;conv=>whnf)
  refine .O ?_
  repeat(refine .A ?_;conv=>whnf)
  refine .I (r:=cD x) (row_at h hn) ?_
  repeat(refine .A ?_;conv=>whnf)
  refine J.a rfl rfl rfl rfl rfl rfl rfl rfl rfl rfl rfl rfl rfl rfl rfl rfl rfl len_R (by show(0+List.length _)*16≤_;simp;omega) ?_
  repeat(refine .A ?_;conv=>whnf)
  refine J.sub (Rel.flat (o:=2) rfl flat_R) ?_
  refine J.sub (Rel.frz (s:=18) (fun _ h=>h) rfl rfl) ?_
  refine .V ?_
  repeat(refine .A ?_;conv=>whnf)
  refine J.aD rfl rfl rfl rfl rfl rfl rfl rfl rfl rfl rfl rfl rfl rfl rfl rfl rfl rfl rfl (by omega) ?_
  repeat(refine .A ?_;conv=>whnf)
  rw[wrap1 hlt (by omega)]
  exact T.K ih
 ·repeat(refine .A ?_;conv=>whnf)
  refine T.cf2 rfl lt_end ?_
  repeat(refine .A ?_;conv=>whnf)
  exact⟨_,.o rfl rfl rfl (fun _=> .inl rfl) (by simp) .nil⟩
theorem sames_spec (a b:List (List (Int×Int)))(hl:a.length*8≤140737488355328)(hx: ∀x∈a,x.length*8≤140737488355328):Spec Tryz.prog 15 false [doms a,doms b] [.val (.bool (decide (a=b)))]:=by
 refine Spec.body Tryz.func15 rfl rfl rfl fun w0 Z0=> ?_
 repeat(refine .A ?_;conv=>whnf)
 refine T.cd rfl (fun h=> ?_) (fun h=> ?_)
 ·repeat(refine .A ?_;conv=>whnf)
  exact⟨_,.v rfl rfl (by simp only[List.length_map]at h;rw[decide_eq_false];intro e;subst e;exact h rfl) (fun _=>rfl) .nil⟩
 ·have hlen:a.length=b.length:=by simp only[List.length_map,ne_eq,Classical.not_not]at h;omega
  repeat(refine .A ?_;conv=>whnf)
  refine T.K (T.ind (fun i:Nat=>⟨[(0,.val false (doms a)),(1,.val false (doms b)),(5,.val true (.int .i64 i))],[],0⟩) (fun i=>i≤a.length∧a.take i=b.take i) (fun i=>a.length-i) 0 (by simp) (fun _ _ h=>h) ?_)
  rintro i ⟨hi,ht⟩ ih
  repeat(refine .A ?_;conv=>whnf)
  refine T.cd rfl (fun h1=> ?_) (fun h1=> ?_)
  ·simp at h1
   repeat(refine .A ?_;conv=>whnf)
   refine .I (r:=cD a[i]) (row_i h1) ?_
   repeat(refine .A ?_;conv=>whnf)
   refine .I (r:=cD b[i]) (row_i (by omega)) ?_
   repeat(refine .A ?_;conv=>whnf)
   refine J.cc rfl rfl rfl rfl rfl (same_spec a[i] b[i] (hx _ (by simp))) rfl rfl ?_
   repeat(refine .A ?_;conv=>whnf)
   refine T.cond rfl (fun h2=> ?_) (fun h2=> ?_)
   ·repeat(refine .A ?_;conv=>whnf)
    exact⟨_,.v rfl rfl (by rw[decide_eq_false];intro e;subst e;simp at h2) (fun _=>rfl) .nil⟩
   ·repeat(refine .A ?_;conv=>whnf)
    rw[wrap1 h1 (by omega)]
    exact T.K (ih (i+1) ⟨by omega,take_same ht h1 (by omega) (by simpa using h2)⟩ (by omega))
  ·simp at h1
   repeat(refine .A ?_;conv=>whnf)
   refine⟨_,.v rfl rfl ?_ (fun _=>rfl) .nil⟩
   rw[List.take_of_length_le (by omega),List.take_of_length_le (by omega)]at ht
   simp[ht]
theorem clone_spec (d:List (Int×Int))(hd:d.length*16≤140737488355328):Spec Tryz.prog 44 false [dm d] [.own 47 2 (d.map cR)]:=by
 refine Spec.body Tryz.func44 rfl rfl rfl fun w0 Z0=> ?_
 repeat(refine .A ?_;conv=>whnf)
 refine J.nc rfl rfl rfl rfl rfl rfl rfl fun b hb=> ?_
 repeat(refine .A ?_;conv=>whnf)
 cases b
 ·refine T.cf rfl ?_
  repeat(refine .A ?_;conv=>whnf)
  refine .O ?_
  repeat(refine .A ?_;conv=>whnf)
  refine J.a rfl rfl rfl rfl rfl rfl rfl rfl rfl rfl rfl rfl rfl rfl rfl rfl rfl len_R (by show(0+List.length _)*16≤_;simp;omega) ?_
  repeat(refine .A ?_;conv=>whnf)
  exact⟨_,.o rfl rfl rfl (fun _=> .inr flat_R) (by simp) .nil⟩
 ·have:d=[]:=by simpa using hb rfl
  subst this
  refine T.ct rfl ?_
  repeat(refine .A ?_;conv=>whnf)
  exact⟨_,.ownN rfl .nil⟩
def lastR (d:List (Int×Int)):Int:=match d.getLast? with
 |some r=>r.2
 |none=>0
def leastR (d:List (Int×Int)):Int:=match d with
 |r::_=>r.1
 | []=>0
theorem least_spec (d:List (Int×Int)):Spec Tryz.prog 50 false [dm d] [.val (.int .i64 (leastR d)),.val (.bool (!d.isEmpty))]:=by
 refine Spec.body Tryz.func50 rfl rfl rfl fun w0 Z0=> ?_
 repeat(refine .A ?_;conv=>whnf)
 cases d with
 |nil=>
  refine T.ct2 rfl rfl ?_
  repeat(refine .A ?_;conv=>whnf)
  exact⟨_,.v rfl rfl rfl (fun _=>rfl) (.v rfl rfl rfl (fun _=>rfl) .nil)⟩
 |cons x d=>
  refine T.cf2 rfl (by simp;omega) ?_
  repeat(refine .A ?_;conv=>whnf)
  refine .I (r:=cR x) rfl ?_
  repeat(refine .A ?_;conv=>whnf)
  exact⟨_,.v rfl rfl rfl (fun _=>rfl) (.v rfl rfl rfl (fun _=>rfl) .nil)⟩
theorem most_spec (d:List (Int×Int))(hd:d.length*8≤140737488355328):Spec Tryz.prog 128 false [dm d] [.val (.int .i64 (lastR d)),.val (.bool (!d.isEmpty))]:=by
 refine Spec.body Tryz.func128 rfl rfl rfl fun w0 Z0=> ?_
 repeat(refine .A ?_;conv=>whnf)
 by_cases hn:d=[]
 ·subst hn
  refine T.ct2 rfl rfl ?_
  repeat(refine .A ?_;conv=>whnf)
  exact⟨_,.v rfl rfl rfl (fun _=>rfl) (.v rfl rfl rfl (fun _=>rfl) .nil)⟩
 ·have hpos:=List.length_pos_iff.2 hn
  refine T.cf2 rfl (by simp[hn]) ?_
  repeat(refine .A ?_;conv=>whnf)
  rw[wrap_id (by simp;omega) (by simp;omega)]
  have e1:((List.map cR d).length:Int)-1=((d.length-1:Nat):Int):=by simp;omega
  rw[e1]
  refine .I (r:=cR (d.getLast hn)) ?_ ?_
  ·rw[List.getLast_eq_getElem]
   exact row_i (by omega)
  repeat(refine .A ?_;conv=>whnf)
  exact⟨_,.v rfl rfl (by simp[lastR,List.getLast?_eq_some_getLast hn]) (fun _=>rfl) (.v rfl rfl (by simp[hn]) (fun _=>rfl) .nil)⟩
def meetF:Nat→List (Int×Int)→List (Int×Int)→List (Int×Int)
 |n+1,x::xs,y::ys=>(if max x.1 y.1≤min x.2 y.2 then [(max x.1 y.1,min x.2 y.2)]else [])++(if x.2<y.2 then meetF n xs (y::ys)else meetF n (x::xs) ys)
 |_,_,_=>[]
def meetR (a b:List (Int×Int)):List (Int×Int):=meetF (a.length+b.length) a b
theorem meetR_cons (x y:Int×Int)(xs ys:List (Int×Int)):meetR (x::xs) (y::ys)=(if max x.1 y.1≤min x.2 y.2 then [(max x.1 y.1,min x.2 y.2)]else [])++(if x.2<y.2 then meetR xs (y::ys)else meetR (x::xs) ys):=by
 unfold meetR
 rw[show(x::xs).length+(y::ys).length=(xs.length+ys.length+1)+1 by simp;omega,meetF]
 rw[show xs.length+(y::ys).length=xs.length+ys.length+1 by simp;omega,show(x::xs).length+ys.length=xs.length+ys.length+1 by simp;omega]
theorem meetR_l (b:List (Int×Int)):meetR [] b=[]:=by
 unfold meetR;generalize ([]:List (Int×Int)).length+b.length=n
 cases n<;>rfl
theorem meetR_r (a:List (Int×Int)):meetR a []=[]:=by
 unfold meetR;generalize a.length+([]:List (Int×Int)).length=n
 cases n with
 |zero=>rfl
 |succ n=>cases a<;>rfl
theorem meet_spec (a b:List (Int×Int))(hl:(a.length+b.length)*16≤140737488355328):Spec Tryz.prog 70 false [dm a,dm b] [.own 47 2 ((meetR a b).map cR)]:=by
 refine Spec.body Tryz.func70 rfl rfl rfl fun w0 Z0=> ?_
 repeat(refine .A ?_;conv=>whnf)
 refine T.sub (Rel.own0 (s:=5) 47 2 rfl) ?_
 refine T.K (T.ind (fun(s:Nat×Nat×List (Int×Int))=>⟨[(0,.val false (dm a)),(1,.val false (dm b)),(5,.ref 0),(6,.val true (.int .i64 s.1)),(7,.val true (.int .i64 s.2.1))],[(0,some (.sl 47 2 true (s.2.2.map cR)))],1⟩)
  (fun s=>s.1≤a.length∧s.2.1≤b.length∧s.2.2.length≤s.1+s.2.1∧s.2.2++meetR (a.drop s.1) (b.drop s.2.1)=meetR a b) (fun s=>(a.length-s.1)+(b.length-s.2.1)) (0,0,[]) (by simp) (fun _ _ h=>h) ?_)
 rintro⟨i,k,out⟩ ⟨hi,hk,hol,he⟩ ih
 simp only at hi hk hol he ih
 dsimp only
 repeat(refine .A ?_;conv=>whnf)
 have fin: ∀(h: ¬(i<a.length∧k<b.length)),out=meetR a b:=by
  intro h
  rw[←he]
  by_cases h1:i<a.length
  ·have h2: ¬k<b.length:=fun h2=>h ⟨h1,h2⟩
   rw[List.drop_of_length_le (l:=b) (by omega)]
   simp[meetR_r]
  ·rw[List.drop_of_length_le (l:=a) (by omega)]
   simp[meetR_l]
 refine J.g rfl rfl rfl (fun h1=> ?_) (fun h1=> ?_)
 ·repeat(refine .A ?_;conv=>whnf)
  simp at h1
  refine T.cd rfl (fun h2=> ?_) (fun h2=> ?_)
  ·simp at h2
   rw[List.drop_eq_getElem_cons h1,List.drop_eq_getElem_cons h2,meetR_cons]at he
   have hai:=row_i (enc:=cR) h1
   have hbk:=row_i (enc:=cR) h2
   have hda:a.drop (i+1)=(a.drop i).tail:=by simp
   repeat(refine .A ?_;conv=>whnf)
   refine .I (r:=cR a[i]) hai ?_
   repeat(refine .A ?_;conv=>whnf)
   refine .I (r:=cR b[k]) hbk ?_
   repeat(refine .A ?_;conv=>whnf)
   refine .I (r:=cR a[i]) hai ?_
   repeat(refine .A ?_;conv=>whnf)
   refine .I (r:=cR b[k]) hbk ?_
   repeat(refine .A ?_;conv=>whnf)
   refine T.cd rfl (fun h3=> ?_) (fun h3=> ?_)
   ·try simp only at h3
    rw[if_pos h3]at he
    repeat(refine .A ?_;conv=>whnf)
    refine .V ?_
    repeat(refine .A ?_;conv=>whnf)
    refine J.aR rfl rfl rfl rfl rfl rfl rfl rfl rfl rfl rfl rfl rfl rfl rfl rfl rfl rfl rfl (by omega) ?_
    repeat(refine .A ?_;conv=>whnf)
    refine .I (r:=cR a[i]) hai ?_
    repeat(refine .A ?_;conv=>whnf)
    refine .I (r:=cR b[k]) hbk ?_
    repeat(refine .A ?_;conv=>whnf)
    refine T.cd rfl (fun h4=> ?_) (fun h4=> ?_)
    ·try simp only at h4
     rw[if_pos h4,←List.drop_eq_getElem_cons h2]at he
     repeat(refine .A ?_;conv=>whnf)
     rw[wrap1 h1 (by omega)]
     exact T.K (ih (i+1,k,out++[(max a[i].1 b[k].1,min a[i].2 b[k].2)]) ⟨by simp only;omega,by simp only;omega,by simp;omega,by simp only;rw[List.append_assoc];exact he⟩ (by simp only;omega))
    ·try simp only at h4
     rw[if_neg h4,←List.drop_eq_getElem_cons h1]at he
     repeat(refine .A ?_;conv=>whnf)
     rw[wrap1 h2 (by omega)]
     exact T.K (ih (i,k+1,out++[(max a[i].1 b[k].1,min a[i].2 b[k].2)]) ⟨by simp only;omega,by simp only;omega,by simp;omega,by simp only;rw[List.append_assoc];exact he⟩ (by simp only;omega))
   ·try simp only at h3
    rw[if_neg h3,List.nil_append]at he
    repeat(refine .A ?_;conv=>whnf)
    refine .I (r:=cR a[i]) hai ?_
    repeat(refine .A ?_;conv=>whnf)
    refine .I (r:=cR b[k]) hbk ?_
    repeat(refine .A ?_;conv=>whnf)
    refine T.cd rfl (fun h4=> ?_) (fun h4=> ?_)
    ·try simp only at h4
     rw[if_pos h4,←List.drop_eq_getElem_cons h2]at he
     repeat(refine .A ?_;conv=>whnf)
     rw[wrap1 h1 (by omega)]
     exact T.K (ih (i+1,k,out) ⟨by simp only;omega,by simp only;omega,by simp only;omega,he⟩ (by simp only;omega))
    ·try simp only at h4
     rw[if_neg h4,←List.drop_eq_getElem_cons h1]at he
     repeat(refine .A ?_;conv=>whnf)
     rw[wrap1 h2 (by omega)]
     exact T.K (ih (i,k+1,out) ⟨by simp only;omega,by simp only;omega,by simp only;omega,he⟩ (by simp only;omega))
  ·simp at h2
   repeat(refine .A ?_;conv=>whnf)
   exact⟨_,.o rfl rfl (by rw[fin (by omega)]) (fun _=> .inl rfl) (by simp) .nil⟩
 ·simp at h1
  repeat(refine .A ?_;conv=>whnf)
  refine T.cf rfl ?_
  repeat(refine .A ?_;conv=>whnf)
  exact⟨_,.o rfl rfl (by rw[fin (by omega)]) (fun _=> .inl rfl) (by simp) .nil⟩
def domCut (d:List (Int×Int))(lo hi:Int):List (Int×Int):=if hi<lo then []else meetR d [(lo,hi)]
theorem domcut_spec (d:List (Int×Int))(lo hi:Int)(hd:(d.length+1)*16≤140737488355328):Spec Tryz.prog 79 false [dm d,.int .i64 lo,.int .i64 hi] [.own 47 2 ((domCut d lo hi).map cR)]:=by
 refine Spec.body Tryz.func79 rfl rfl rfl fun w0 Z0=> ?_
 repeat(refine .A ?_;conv=>whnf)
 refine T.cd rfl (fun h=> ?_) (fun h=> ?_)
 ·have e:domCut d lo hi=[]:=by simp[domCut];intro h2;omega
  rw[e]
  repeat(refine .A ?_;conv=>whnf)
  exact⟨_,.ownN rfl .nil⟩
 ·have e:domCut d lo hi=meetR d [(lo,hi)]:=by simp[domCut];intro h2;omega
  rw[e]
  repeat(refine .A ?_;conv=>whnf)
  refine .V ?_
  repeat(refine .A ?_;conv=>whnf)
  refine .C (meet_spec d [(lo,hi)] (by simpa using hd)) ?_
  repeat(refine .A ?_;conv=>whnf)
  exact⟨_,.o rfl rfl rfl (fun _=> .inl rfl) (by simp) .nil⟩
theorem equal_spec (a b:List (Int×Int))(hl:a.length*8≤140737488355328):Spec Tryz.prog 99 false [dm a,dm b] [.val (.bool (decide (a=b)))]:=by
 refine Spec.body Tryz.func99 rfl rfl rfl fun w0 Z0=> ?_
 repeat(refine .A ?_;conv=>whnf)
 refine T.cd rfl (fun h=> ?_) (fun h=> ?_)
 ·repeat(refine .A ?_;conv=>whnf)
  exact⟨_,.v rfl rfl (by simp only[List.length_map]at h;rw[decide_eq_false];intro e;subst e;exact h rfl) (fun _=>rfl) .nil⟩
 ·have hlen:a.length=b.length:=by simp only[List.length_map,ne_eq,Classical.not_not]at h;omega
  repeat(refine .A ?_;conv=>whnf)
  refine T.K (T.ind (fun i:Nat=>⟨[(0,.val false (dm a)),(1,.val false (dm b)),(12,.val true (.int .i64 (a.map cR).length)),(13,.val true (.int .i64 i))],[],0⟩) (fun i=>i≤a.length∧a.take i=b.take i) (fun i=>a.length-i) 0 (by simp) (fun _ _ h=>h) ?_)
  rintro i ⟨hi,ht⟩ ih
  repeat(refine .A ?_;conv=>whnf)
  refine T.cd rfl (fun h1=> ?_) (fun h1=> ?_)
  ·simp at h1
   repeat(refine .A ?_;conv=>whnf)
   refine .I (r:=cR a[i]) (row_i h1) ?_
   repeat(refine .A ?_;conv=>whnf)
   refine .I (r:=cR b[i]) (row_i (by omega)) ?_
   repeat(refine .A ?_;conv=>whnf)
   refine J.se [a[i].1,a[i].2] [b[i].1,b[i].2] rfl rfl rfl rfl rfl rfl rfl rfl (by kernel_rfl) (by kernel_rfl) (by kernel_rfl) (by kernel_rfl) rfl rfl (.inr rfl) ?_
   repeat(refine .A ?_;conv=>whnf)
   refine T.cond rfl (fun h2=> ?_) (fun h2=> ?_)
   ·repeat(refine .A ?_;conv=>whnf)
    exact⟨_,.v rfl rfl (by rw[decide_eq_false];intro e;subst e;simp at h2) (fun _=>rfl) .nil⟩
   ·repeat(refine .A ?_;conv=>whnf)
    rw[wrap1 h1 (by omega)]
    refine T.K (ih (i+1) ⟨by omega,take_same ht h1 (by omega) ?_⟩ (by omega))
    simp at h2
    exact Prod.ext h2.1 h2.2
  ·simp at h1
   repeat(refine .A ?_;conv=>whnf)
   refine⟨_,.v rfl rfl ?_ (fun _=>rfl) .nil⟩
   rw[List.take_of_length_le (by omega),List.take_of_length_le (by omega)]at ht
   simp[ht]
theorem domsame_spec (a b:List (Int×Int))(hl:a.length*8≤140737488355328):Spec Tryz.prog 47 false [dm a,dm b] [.val (.bool (decide (a=b)))]:=by
 refine Spec.body Tryz.func47 rfl rfl rfl fun w0 Z0=> ?_
 repeat(refine .A ?_;conv=>whnf)
 refine .C (equal_spec a b hl) ?_
 repeat(refine .A ?_;conv=>whnf)
 exact⟨_,.v rfl rfl rfl (fun _=>rfl) .nil⟩
def ofD (d:List (Int×Int)):Int×Int:=(leastR d,lastR d)
theorem dof_spec (d:List (Int×Int))(hd:d.length*8≤140737488355328):Spec Tryz.prog 80 false [dm d] [.val (.agg [.int .i64 (leastR d),.int .i64 (lastR d)])]:=by
 refine Spec.body Tryz.func80 rfl rfl rfl fun w0 Z0=> ?_
 repeat(refine .A ?_;conv=>whnf)
 refine J.al rfl rfl rfl rfl rfl rfl rfl ?_
 repeat(refine .A ?_;conv=>whnf)
 refine .C (least_spec d) ?_
 repeat(refine .A ?_;conv=>whnf)
 refine .C (most_spec d hd) ?_
 repeat(refine .A ?_;conv=>whnf)
 refine J.w rfl rfl rfl rfl rfl rfl rfl rfl rfl rfl ?_
 repeat(refine .A ?_;conv=>whnf)
 exact⟨_,.c rfl rfl rfl rfl (fun _=>rfl) .nil⟩
def knownB (a b:Int)(da db:List (Int×Int)):Bool:=decide (a=b)||(decide (0<da.length)&&decide (0<db.length)&&decide (leastR da=lastR da)&&decide (ofD da=ofD db))
theorem known_spec (d:List (List (Int×Int)))(a b:Int)(da db:List (Int×Int))(ha:0≤a)(hb:0≤b)(hda:d[a.toNat]? =some da)(hdb:d[b.toNat]? =some db)(hla:da.length*8≤140737488355328)(hlb:db.length*8≤140737488355328):
  Spec Tryz.prog 127 false [doms d,.int .i64 a,.int .i64 b] [.val (.bool (knownB a b da db))]:=by
 refine Spec.body Tryz.func127 rfl rfl rfl fun w0 Z0=> ?_
 have ra:(d.map cD)[a.toNat]? =some (cD da):=by simp[hda]
 have rb:(d.map cD)[b.toNat]? =some (cD db):=by simp[hdb]
 repeat(refine .A ?_;conv=>whnf)
 refine J.i rfl rfl rfl rfl rfl rfl rfl rfl rfl (r:=cD da) ha ra rfl ?_
 repeat(refine .A ?_;conv=>whnf)
 refine .C (dof_spec da hla) ?_
 repeat(refine .A ?_;conv=>whnf)
 refine J.al rfl rfl rfl rfl rfl rfl rfl ?_
 refine J.w rfl rfl rfl rfl rfl rfl rfl rfl rfl rfl ?_
 repeat(refine .A ?_;conv=>whnf)
 refine J.g rfl rfl rfl (fun h1=> ?_) (fun h1=> ?_)
 ·repeat(refine .A ?_;conv=>whnf)
  exact⟨_,.v rfl rfl (by simp[knownB,show a=b from h1]) (fun _=>rfl) .nil⟩
 ·repeat(refine .A ?_;conv=>whnf)
  refine J.i rfl rfl rfl rfl rfl rfl rfl rfl rfl (r:=cD da) ha ra rfl ?_
  repeat(refine .A ?_;conv=>whnf)
  refine J.g rfl rfl rfl (fun h2=> ?_) (fun h2=> ?_)
  ·repeat(refine .A ?_;conv=>whnf)
   refine J.i rfl rfl rfl rfl rfl rfl rfl rfl rfl (r:=cD db) hb rb rfl ?_
   repeat(refine .A ?_;conv=>whnf)
   refine J.g rfl rfl rfl (fun h3=> ?_) (fun h3=> ?_)
   ·repeat(refine .A ?_;conv=>whnf)
    refine J.g rfl rfl rfl (fun h4=> ?_) (fun h4=> ?_)
    ·repeat(refine .A ?_;conv=>whnf)
     refine J.i rfl rfl rfl rfl rfl rfl rfl rfl rfl (r:=cD db) hb rb rfl ?_
     repeat(refine .A ?_;conv=>whnf)
     refine .C (dof_spec db hlb) ?_
     repeat(refine .A ?_;conv=>whnf)
     refine J.se [leastR da,lastR da] [leastR db,lastR db] rfl rfl rfl rfl rfl rfl rfl rfl (by kernel_rfl) (by kernel_rfl) (by kernel_rfl) (by kernel_rfl) rfl rfl (.inl rfl) ?_
     repeat(refine .A ?_;conv=>whnf)
     refine⟨_,.v rfl rfl ?_ (fun _=>rfl) .nil⟩
     have h2:0<da.length:=by simpa using h2
     have h3:0<db.length:=by simpa using h3
     have h1: ¬a=b:=h1
     have h4:leastR da=lastR da:=h4
     simp[knownB,h1,h2,h3,h4,ofD]
    ·repeat(refine .A ?_;conv=>whnf)
     exact⟨_,.v rfl rfl (by simp[knownB,show¬a=b from h1,show¬leastR da=lastR da from h4]) (fun _=>rfl) .nil⟩
   ·repeat(refine .A ?_;conv=>whnf)
    refine⟨_,.v rfl rfl ?_ (fun _=>rfl) .nil⟩
    have h3: ¬0<db.length:=by simpa using h3
    simp[knownB,show¬a=b from h1,h3]
  ·repeat(refine .A ?_;conv=>whnf)
   refine⟨_,.v rfl rfl ?_ (fun _=>rfl) .nil⟩
   have h2: ¬0<da.length:=by simpa using h2
   simp[knownB,show¬a=b from h1,h2]
def placeF (p:Nat→Bool)(h:Nat):Nat:=((List.range h).find? fun k=> !p k).getD h
theorem placeF_at {p:Nat→Bool}{h k:Nat}(hk:k<h)(ha: ∀j,j<k→p j=true)(hn:p k=false):placeF p h=k:=by
 unfold placeF
 have:(List.range h).find? (fun k=> !p k)=some k:=by
  rw[List.find?_range_eq_some]
  exact⟨by simp[hn],by simpa using hk,fun j hj=>by simp[ha j hj]⟩
 rw[this];rfl
theorem placeF_all {p:Nat→Bool}{h:Nat}(ha: ∀j,j<h→p j=true):placeF p h=h:=by
 unfold placeF
 have:(List.range h).find? (fun k=> !p k)=none:=by
  rw[List.find?_eq_none]
  intro x hx
  simp[ha x (List.mem_range.1 hx)]
 rw[this];rfl
def halfOf (c:Con):Nat:=c.vars.length / 2
def varAt (c:Con)(k:Nat):Int:=c.vars.getD k 0
def domAt (d:List (List (Int×Int)))(v:Int):List (Int×Int):=d.getD v.toNat []
def VarsIn (d:List (List (Int×Int)))(c:Con):Prop:=c.vars.length*8≤140737488355328∧∀v∈c.vars,0≤v∧v.toNat<d.length
def pairO (d:List (List (Int×Int)))(c:Con)(k:Nat):Bool:=knownB (varAt c k) (varAt c (halfOf c+k)) (domAt d (varAt c k)) (domAt d (varAt c (halfOf c+k)))
def placeO (d:List (List (Int×Int)))(c:Con):Nat:=placeF (pairO d c) (halfOf c)
theorem varAt_row {c:Con}{k:Nat}(h:k<c.vars.length):(c.vars.map cI)[((k:Nat):Int).toNat]? =some (cI (varAt c k)):=by
 simp[varAt,h]
theorem varAt_mem {c:Con}{k:Nat}(h:k<c.vars.length):varAt c k∈c.vars:=by
 simp[varAt,h]
theorem domAt_some {d:List (List (Int×Int))}{v:Int}(h:v.toNat<d.length):d[v.toNat]? =some (domAt d v):=by
 simp[domAt,h]
theorem domAt_mem {d:List (List (Int×Int))}{v:Int}(h:v.toNat<d.length):domAt d v∈d:=by
 simp[domAt,h]
theorem half_le (c:Con):halfOf c+halfOf c≤c.vars.length:=by unfold halfOf;omega
theorem place_spec (d:List (List (Int×Int)))(c:Con)(hc:VarsIn d c)(hd: ∀x∈d,x.length*8≤140737488355328):Spec Tryz.prog 78 false [doms d,.agg (cC c)] [.val (.int .i64 (placeO d c))]:=by
 refine Spec.body Tryz.func78 rfl rfl rfl fun w0 Z0=> ?_
 obtain⟨hc1,hc2⟩:=hc
 have hh:=half_le c
 repeat(refine .A ?_;conv=>whnf)
 have e1:IntKind.i64.wrap (((c.vars.map cI).length:Int).tdiv 2)=(halfOf c:Int):=by
  rw[List.length_map,Int.tdiv_eq_ediv_of_nonneg (by omega),wrap_id (by omega) (by omega)]
  simp[halfOf]
 rw[e1]
 refine T.K (T.ind (fun k:Nat=>⟨[(0,.val false (doms d)),(3,.optr 0 0 0 0),(5,.val true (.int .i64 (halfOf c))),(11,.val true (.int .i64 (halfOf c))),(12,.val true (.int .i64 k))],[(0,some (.box false (cC c)))],1⟩)
  (fun k=>k≤halfOf c∧∀j,j<k→pairO d c j=true) (fun k=>halfOf c-k) 0 (by simp) (fun _ _ h=>h) ?_)
 rintro k ⟨hk,hp⟩ ih
 repeat(refine .A ?_;conv=>whnf)
 refine T.cd rfl (fun h1=> ?_) (fun h1=> ?_)
 ·have h1:k<halfOf c:=by simpa using h1
  have hv1:=hc2 _ (varAt_mem (c:=c) (k:=k) (by omega))
  have hv2:=hc2 _ (varAt_mem (c:=c) (k:=halfOf c+k) (by omega))
  repeat(refine .A ?_;conv=>whnf)
  refine .I (r:=cI (varAt c k)) (varAt_row (by omega)) ?_
  repeat(refine .A ?_;conv=>whnf)
  rw[show IntKind.i64.wrap ((halfOf c:Int)+(k:Int))=((halfOf c+k:Nat):Int)by rw[wrap_id (by omega) (by omega)];omega]
  refine .I (r:=cI (varAt c (halfOf c+k))) (varAt_row (by omega)) ?_
  repeat(refine .A ?_;conv=>whnf)
  refine J.cc rfl rfl rfl rfl rfl (known_spec d (varAt c k) (varAt c (halfOf c+k)) _ _ hv1.1 hv2.1 (domAt_some hv1.2) (domAt_some hv2.2) (hd _ (domAt_mem hv1.2)) (hd _ (domAt_mem hv2.2))) rfl rfl ?_
  repeat(refine .A ?_;conv=>whnf)
  refine T.cond rfl (fun h2=> ?_) (fun h2=> ?_)
  ·have h2:pairO d c k=false:=by simpa[pairO]using h2
   repeat(refine .A ?_;conv=>whnf)
   exact⟨_,.v rfl rfl (by rw[placeO,placeF_at h1 hp h2]) (fun _=>rfl) .nil⟩
  ·have h2:pairO d c k=true:=by simpa[pairO]using h2
   repeat(refine .A ?_;conv=>whnf)
   rw[wrap1 (l:=halfOf c) h1 (by omega)]
   refine T.K (ih (k+1) ⟨by omega,fun j hj=> ?_⟩ (by omega))
   by_cases e:j=k
   ·rw[e];exact h2
   ·exact hp j (by omega)
 ·have h1: ¬k<halfOf c:=by simpa using h1
  repeat(refine .A ?_;conv=>whnf)
  exact⟨_,.v rfl rfl (by rw[placeO,placeF_all fun j hj=>hp j (by omega)]) (fun _=>rfl) .nil⟩
def knownR (a b:Int)(da db:List (Int×Int)):Bool:=decide (a=b)||(decide ((vals da).length=1)&&decide (vals da=vals db))
def pairR (d:List (List (Int×Int)))(c:Con)(k:Nat):Bool:=knownR (varAt c k) (varAt c (halfOf c+k)) (domAt d (varAt c k)) (domAt d (varAt c (halfOf c+k)))
def placeR (d:List (List (Int×Int)))(c:Con):Nat:=placeF (pairR d c) (halfOf c)
theorem placeR_spec (d:List (List (Int×Int)))(c:Con)(hc:VarsIn d c)(hd: ∀x∈d,DomB x):Spec Tryz.prog 96 false [doms d,.agg (cC c)] [.val (.int .i64 (placeR d c))]:=by
 refine Spec.body Tryz.func96 rfl rfl rfl fun w0 Z0=> ?_
 obtain⟨hc1,hc2⟩:=hc
 have hh:=half_le c
 repeat(refine .A ?_;conv=>whnf)
 have e1:IntKind.i64.wrap (((c.vars.map cI).length:Int).tdiv 2)=(halfOf c:Int):=by
  rw[List.length_map,Int.tdiv_eq_ediv_of_nonneg (by omega),wrap_id (by omega) (by omega)]
  simp[halfOf]
 rw[e1]
 refine T.K (T.ind (fun k:Nat=>⟨[(0,.val false (doms d)),(3,.optr 0 0 0 0),(5,.val true (.int .i64 (halfOf c))),(6,.val true (.int .i64 k))],[(0,some (.box false (cC c)))],1⟩)
  (fun k=>k≤halfOf c∧∀j,j<k→pairR d c j=true) (fun k=>halfOf c-k) 0 (by simp) (fun _ _ h=>h) ?_)
 rintro k ⟨hk,hp⟩ ih
 repeat(refine .A ?_;conv=>whnf)
 refine T.cd rfl (fun h1=> ?_) (fun h1=> ?_)
 ·have h1:k<halfOf c:=by simpa using h1
  have hv1:=hc2 _ (varAt_mem (c:=c) (k:=k) (by omega))
  have hv2:=hc2 _ (varAt_mem (c:=c) (k:=halfOf c+k) (by omega))
  obtain⟨ha1,ha2,ha3⟩:=hd _ (domAt_mem hv1.2)
  obtain⟨hb1,hb2,hb3⟩:=hd _ (domAt_mem hv2.2)
  have hpk:pairR d c k=knownR (varAt c k) (varAt c (halfOf c+k)) (domAt d (varAt c k)) (domAt d (varAt c (halfOf c+k))):=rfl
  have ra:(d.map cD)[(varAt c k).toNat]? =some (cD (domAt d (varAt c k))):=by simp[domAt_some hv1.2]
  have rb:(d.map cD)[(varAt c (halfOf c+k)).toNat]? =some (cD (domAt d (varAt c (halfOf c+k)))):=by simp[domAt_some hv2.2]
  repeat(refine .A ?_;conv=>whnf)
  refine .I (r:=cI (varAt c k)) (varAt_row (by omega)) ?_
  repeat(refine .A ?_;conv=>whnf)
  rw[show IntKind.i64.wrap ((halfOf c:Int)+(k:Int))=((halfOf c+k:Nat):Int)by rw[wrap_id (by omega) (by omega)];omega]
  refine .I (r:=cI (varAt c (halfOf c+k))) (varAt_row (by omega)) ?_
  repeat(refine .A ?_;conv=>whnf)
  refine J.i rfl rfl rfl rfl rfl rfl rfl rfl rfl (r:=cD (domAt d (varAt c k))) hv1.1 ra rfl ?_
  repeat(refine .A ?_;conv=>whnf)
  refine .C (values_spec (domAt d (varAt c k)) ha1 (by omega) ha3).frz ?_
  repeat(refine .A ?_;conv=>whnf)
  refine J.i rfl rfl rfl rfl rfl rfl rfl rfl rfl (r:=cD (domAt d (varAt c (halfOf c+k)))) hv2.1 rb rfl ?_
  repeat(refine .A ?_;conv=>whnf)
  refine .C (values_spec (domAt d (varAt c (halfOf c+k))) hb1 (by omega) hb3).frz ?_
  repeat(refine .A ?_;conv=>whnf)
  unfold knownR at hpk
  generalize vals (domAt d (varAt c k))=x at*
  generalize vals (domAt d (varAt c (halfOf c+k)))=y at*
  refine J.g rfl rfl rfl (fun h2=> ?_) (fun h2=> ?_)
  ·have h2: ¬varAt c k=varAt c (halfOf c+k):=h2
   repeat(refine .A ?_;conv=>whnf)
   refine J.g rfl rfl rfl (fun h3=> ?_) (fun h3=> ?_)
   ·have h3:x.length=1:=by simp only[List.length_map]at h3;omega
    repeat(refine .A ?_;conv=>whnf)
    refine .C (nums_spec x y (by omega)) ?_
    repeat(refine .A ?_;conv=>whnf)
    refine T.cond rfl (fun h4=> ?_) (fun h4=> ?_)
    ·have hpf:pairR d c k=false:=by rw[hpk];simp[h2,h3];simpa using h4
     repeat(refine .A ?_;conv=>whnf)
     exact⟨_,.v rfl rfl (by rw[placeR,placeF_at h1 hp hpf]) (fun _=>rfl) .nil⟩
    ·have hpt:pairR d c k=true:=by rw[hpk];simp[h2,h3];simpa using h4
     repeat(refine .A ?_;conv=>whnf)
     rw[wrap1 (l:=halfOf c) h1 (by omega)]
     refine T.K (ih (k+1) ⟨by omega,fun j hj=> ?_⟩ (by omega))
     by_cases e:j=k
     ·rw[e];exact hpt
     ·exact hp j (by omega)
   ·have h3: ¬x.length=1:=by simp only[List.length_map]at h3;omega
    repeat(refine .A ?_;conv=>whnf)
    refine T.ct rfl ?_
    have hpf:pairR d c k=false:=by rw[hpk];simp[h2,h3]
    repeat(refine .A ?_;conv=>whnf)
    exact⟨_,.v rfl rfl (by rw[placeR,placeF_at h1 hp hpf]) (fun _=>rfl) .nil⟩
  ·have h2:varAt c k=varAt c (halfOf c+k):=Classical.not_not.1 h2
   have hpt:pairR d c k=true:=by rw[hpk];simp[h2]
   repeat(refine .A ?_;conv=>whnf)
   refine T.cf rfl ?_
   repeat(refine .A ?_;conv=>whnf)
   rw[wrap1 (l:=halfOf c) h1 (by omega)]
   refine T.K (ih (k+1) ⟨by omega,fun j hj=> ?_⟩ (by omega))
   by_cases e:j=k
   ·rw[e];exact hpt
   ·exact hp j (by omega)
 ·have h1: ¬k<halfOf c:=by simpa using h1
  repeat(refine .A ?_;conv=>whnf)
  exact⟨_,.v rfl rfl (by rw[placeR,placeF_all fun j hj=>hp j (by omega)]) (fun _=>rfl) .nil⟩
abbrev Doms:=List (List (Int×Int))
def iter {α β:Type}(step:α→β ⊕ α):Nat→α→Option β
 |0,_=>none
 |n+1,x=>match step x with
  | .inl b=>some b
  | .inr y=>iter step n y
theorem iter_inl {α β:Type}{step:α→β ⊕ α}{n:Nat}{x:α}{b r:β}(h:iter step n x=some r)(e:step x= .inl b):b=r:=by
 cases n with
 |zero=>cases h
 |succ n=>simp only[iter,e,Option.some.injEq]at h;exact h
theorem iter_inr {α β:Type}{step:α→β ⊕ α}{n:Nat}{x y:α}{r:β}(h:iter step n x=some r)(e:step x= .inr y): ∃m,m<n∧iter step m y=some r:=by
 cases n with
 |zero=>cases h
 |succ n=>simp only[iter,e]at h;exact⟨n,Nat.lt_succ_self n,h⟩
def stepO (c:Con)(out:Doms):Option Doms ⊕ Doms:=
 if placeO out c=halfOf c then .inl (some out)else
 let a:=varAt c (placeO out c)
 let b:=varAt c (halfOf c+placeO out c)
 let x:=domCut (domAt out a) (-1048576) (lastR (domAt out b))
 let y:=domCut (domAt out b) (leastR (domAt out a)) 1048576
 if x=[]∨y=[]then .inl none else
 if x=domAt out a∧y=domAt out b then .inl (some out)else .inr ((out.set a.toNat x).set b.toNat y)
def stepR (c:Con)(out:Doms):Option Doms ⊕ Doms:=
 if placeR out c=halfOf c then .inl (some out)else
 let a:=varAt c (placeR out c)
 let b:=varAt c (halfOf c+placeR out c)
 let low:=(endsR (domAt out a)).1
 let high:=(endsR (domAt out b)).2.1
 let next:=(out.set a.toNat (cutR (domAt out a) low high)).set b.toNat (cutR (domAt out b) low (max low 1048576))
 if []∈next then .inl none else
 if next=out then .inl (some out)else .inr next
def pruneRes (R:Option Doms):List RV:=[.own 45 1 ((R.getD []).map cD),.val (.bool R.isSome)]
theorem meet1_length (r:Int×Int): ∀a,(meetR a [r]).length≤a.length
 | []=>by simp[meetR_l]
 |x::xs=>by
  have:=meet1_length r xs
  rw[meetR_cons]
  simp only[List.length_append,List.length_cons]
  have h2:(meetR (x::xs) []).length=0:=by simp[meetR_r]
  split<;>split<;>simp only[List.length_cons,List.length_nil]<;>omega
theorem domCut_length (d:List (Int×Int))(lo hi:Int):(domCut d lo hi).length≤d.length:=by
 unfold domCut;split
 ·simp
 ·exact meet1_length _ _
theorem placeF_le (p:Nat→Bool)(h:Nat):placeF p h≤h:=by
 unfold placeF
 cases hf:(List.range h).find? (fun k=> !p k)with
 |none=>simp
 |some k=>
  have:=List.mem_range.1 (List.mem_of_find?_eq_some hf)
  simp;omega
def SmallD (d:Doms):Prop:=d.length*24≤140737488355328∧∀x∈d,(x.length+1)*16≤140737488355328
theorem SmallD.set {d:Doms}(h:SmallD d)(i:Nat){x:List (Int×Int)}(hx:(x.length+1)*16≤140737488355328):SmallD (d.set i x):=by
 refine⟨by simpa using h.1,fun y hy=> ?_⟩
 rcases List.mem_or_eq_of_mem_set hy with hy|rfl
 ·exact h.2 y hy
 ·exact hx
theorem VarsIn.set {d:Doms}{c:Con}(h:VarsIn d c)(i:Nat)(x:List (Int×Int)):VarsIn (d.set i x) c:=by
 refine⟨h.1,fun v hv=> ?_⟩
 rw[List.length_set]
 exact h.2 v hv
theorem prune_spec (d:Doms)(c:Con)(hc:VarsIn d c)(hd:SmallD d)(R:Option Doms)(N:Nat)(hR:if []∈d then R=none else iter (stepO c) N d=some R):Spec Tryz.prog 34 false [doms d,.agg (cC c)] (pruneRes R):=by
 refine Spec.body Tryz.func34 rfl rfl rfl fun w0 Z0=> ?_
 have hh:=half_le c
 obtain⟨hd1,hd2⟩:=hd
 repeat(refine .A ?_;conv=>whnf)
 refine T.sub (Rel.own0 (s:=6) 45 1 rfl) ?_
 refine T.K (T.listI d (fun pre=>[]∉pre) (fun n pre post=>⟨[(0,.val false (doms d)),(3,.optr 0 0 0 0),(6,.ref 1),(15,.val false (doms d)),(16,.val true (.int .i64 (d.map cD).length)),(17,.val true (.int .i64 n))],[(0,some (.box false (cC c))),(1,some (.sl 45 1 true (pre.map cD)))],2⟩) (fun _ _ h=>h) (by simp) ?_ ?_)
 ·rintro n pre x post h hn hi ih
  have hlt:=at_lt h hn
  have hxl:=hd2 x (by rw[h];simp)
  repeat(refine .A ?_;conv=>whnf)
  refine T.ct2 rfl (lt_at h hn) ?_
  repeat(refine .A ?_;conv=>whnf)
  refine .I (r:=cD x) (row_at h hn) ?_
  repeat(refine .A ?_;conv=>whnf)
  refine T.cd rfl (fun h1=> ?_) (fun h1=> ?_)
  ·have hx:x=[]:=by simp at h1;exact h1
   have:R=none:=by rw[if_pos (by rw[h,hx];simp)]at hR;exact hR
   subst this
   repeat(refine .A ?_;conv=>whnf)
   exact⟨_,.ownN rfl (.v rfl rfl rfl (fun _=>rfl) .nil)⟩
  ·have hx:x≠[]:=fun e=>h1 (by rw[e];rfl)
   repeat(refine .A ?_;conv=>whnf)
   refine .C (clone_spec x (by omega)).frz ?_
   repeat(refine .A ?_;conv=>whnf)
   refine .V ?_
   repeat(refine .A ?_;conv=>whnf)
   refine J.aD rfl rfl rfl rfl rfl rfl rfl rfl rfl rfl rfl rfl rfl rfl rfl rfl rfl rfl rfl (by omega) ?_
   repeat(refine .A ?_;conv=>whnf)
   rw[wrap1 hlt (by omega)]
   exact T.K (ih (by simp[hi,Ne.symm hx]))
 ·intro hi
  rw[if_neg hi]at hR
  repeat(refine .A ?_;conv=>whnf)
  refine T.cf2 rfl lt_end ?_
  repeat(refine .A ?_;conv=>whnf)
  have e1:IntKind.i64.wrap (((c.vars.map cI).length:Int).tdiv 2)=(halfOf c:Int):=by
   have:=hc.1
   rw[List.length_map,Int.tdiv_eq_ediv_of_nonneg (by omega),wrap_id (by omega) (by omega)]
   simp[halfOf]
  rw[e1]
  refine T.K (T.ind (fun(s:Nat×Doms)=>⟨[(3,.optr 0 0 0 0),(6,.ref 1),(9,.val true (.int .i64 (halfOf c)))],[(0,some (.box false (cC c))),(1,some (.sl 45 1 true (s.2.map cD)))],2⟩)
   (fun s=>iter (stepO c) s.1 s.2=some R∧VarsIn s.2 c∧SmallD s.2) (fun s=>s.1) (N,d) ⟨hR,hc,hd1,hd2⟩ (fun _ _ h=>h) ?_)
  rintro⟨m,out⟩ ⟨hR,hc,hd⟩ ih
  simp only at hR hc hd ih
  dsimp only
  have hcv:=hc.1
  have hlen8: ∀x∈out,x.length*8≤140737488355328:=fun x hx=>by have:=hd.2 x hx;omega
  repeat(refine .A ?_;conv=>whnf)
  refine .C (place_spec out c hc hlen8) ?_
  repeat(refine .A ?_;conv=>whnf)
  have hpl:placeO out c≤halfOf c:=placeF_le _ _
  have hst:stepO c out=stepO c out:=rfl
  conv at hst=>rhs;unfold stepO
  generalize placeO out c=k at*
  refine T.cd rfl (fun h1=> ?_) (fun h1=> ?_)
  ·have h1:k=halfOf c:=by omega
   rw[if_pos h1]at hst
   obtain rfl:=iter_inl hR hst
   repeat(refine .A ?_;conv=>whnf)
   exact⟨_,.o rfl rfl rfl (fun _=> .inl rfl) (by simp) (.v rfl rfl rfl (fun _=>rfl) .nil)⟩
  ·have h1: ¬k=halfOf c:=by omega
   rw[if_neg h1]at hst
   have hv1:=hc.2 _ (varAt_mem (c:=c) (k:=k) (by omega))
   have hv2:=hc.2 _ (varAt_mem (c:=c) (k:=halfOf c+k) (by omega))
   have hm1:=hd.2 _ (domAt_mem hv1.2)
   have hm2:=hd.2 _ (domAt_mem hv2.2)
   have ra:(out.map cD)[(varAt c k).toNat]? =some (cD (domAt out (varAt c k))):=by simp[domAt_some hv1.2]
   have rb:(out.map cD)[(varAt c (halfOf c+k)).toNat]? =some (cD (domAt out (varAt c (halfOf c+k)))):=by simp[domAt_some hv2.2]
   have la:(varAt c k).toNat<(out.map cD).length:=by simpa using hv1.2
   have lb:(varAt c (halfOf c+k)).toNat<(out.map cD).length:=by simpa using hv2.2
   have ka:=varAt_row (c:=c) (k:=k) (by omega)
   have kb:=varAt_row (c:=c) (k:=halfOf c+k) (by omega)
   simp only at hst
   generalize varAt c k=a at*
   generalize varAt c (halfOf c+k)=b at*
   generalize domAt out a=da at*
   generalize domAt out b=db at*
   repeat(refine .A ?_;conv=>whnf)
   refine .I (r:=cI a) ka ?_
   repeat(refine .A ?_;conv=>whnf)
   rw[show IntKind.i64.wrap ((halfOf c:Int)+(k:Int))=((halfOf c+k:Nat):Int)by rw[wrap_id (by omega) (by omega)];omega]
   refine .I (r:=cI b) kb ?_
   repeat(refine .A ?_;conv=>whnf)
   refine J.io rfl rfl rfl rfl rfl rfl rfl rfl rfl hv1.1 la rfl ?_
   refine J.lo rfl rfl rfl rfl rfl rfl (r:=cD da) ra rfl ?_
   repeat(refine .A ?_;conv=>whnf)
   refine J.io rfl rfl rfl rfl rfl rfl rfl rfl rfl hv2.1 lb rfl ?_
   refine J.lo rfl rfl rfl rfl rfl rfl (r:=cD db) rb rfl ?_
   repeat(refine .A ?_;conv=>whnf)
   refine .C (dof_spec db (by omega)) ?_
   repeat(refine .A ?_;conv=>whnf)
   refine .C (domcut_spec da (-1048576) (lastR db) (by omega)).frz ?_
   repeat(refine .A ?_;conv=>whnf)
   refine J.io rfl rfl rfl rfl rfl rfl rfl rfl rfl hv2.1 lb rfl ?_
   refine J.lo rfl rfl rfl rfl rfl rfl (r:=cD db) rb rfl ?_
   repeat(refine .A ?_;conv=>whnf)
   refine J.io rfl rfl rfl rfl rfl rfl rfl rfl rfl hv1.1 la rfl ?_
   refine J.lo rfl rfl rfl rfl rfl rfl (r:=cD da) ra rfl ?_
   repeat(refine .A ?_;conv=>whnf)
   refine .C (dof_spec da (by omega)) ?_
   repeat(refine .A ?_;conv=>whnf)
   refine .C (domcut_spec db (leastR da) 1048576 (by omega)).frz ?_
   repeat(refine .A ?_;conv=>whnf)
   have hxl:=domCut_length da (-1048576) (lastR db)
   have hyl:=domCut_length db (leastR da) 1048576
   generalize domCut da (-1048576) (lastR db)=x at*
   generalize domCut db (leastR da) 1048576=y at*
   have hnone:x=[]∨y=[]→R=none:=fun h=>by rw[if_pos h]at hst;exact(iter_inl hR hst).symm
   refine J.g rfl rfl rfl (fun h2=> ?_) (fun h2=> ?_)
   ·have h2:x=[]:=by simpa using h2
    have:=hnone (.inl h2)
    subst this
    repeat(refine .A ?_;conv=>whnf)
    refine T.ct rfl ?_
    repeat(refine .A ?_;conv=>whnf)
    exact⟨_,.ownN rfl (.v rfl rfl rfl (fun _=>rfl) .nil)⟩
   ·have h2: ¬x=[]:=by simpa using h2
    repeat(refine .A ?_;conv=>whnf)
    refine T.cd rfl (fun h3=> ?_) (fun h3=> ?_)
    ·have h3:y=[]:=by simpa using h3
     have:=hnone (.inr h3)
     subst this
     repeat(refine .A ?_;conv=>whnf)
     exact⟨_,.ownN rfl (.v rfl rfl rfl (fun _=>rfl) .nil)⟩
    ·have h3: ¬y=[]:=by simpa using h3
     rw[if_neg (by simp[h2,h3])]at hst
     repeat(refine .A ?_;conv=>whnf)
     refine J.io rfl rfl rfl rfl rfl rfl rfl rfl rfl hv1.1 la rfl ?_
     refine J.lo rfl rfl rfl rfl rfl rfl (r:=cD da) ra rfl ?_
     repeat(refine .A ?_;conv=>whnf)
     refine .C (domsame_spec x da (by omega)) ?_
     repeat(refine .A ?_;conv=>whnf)
     refine J.g rfl rfl rfl (fun h4=> ?_) (fun h4=> ?_)
     ·have h4:x=da:=h4
      repeat(refine .A ?_;conv=>whnf)
      refine J.io rfl rfl rfl rfl rfl rfl rfl rfl rfl hv2.1 lb rfl ?_
      refine J.lo rfl rfl rfl rfl rfl rfl (r:=cD db) rb rfl ?_
      repeat(refine .A ?_;conv=>whnf)
      refine .C (domsame_spec y db (by omega)) ?_
      repeat(refine .A ?_;conv=>whnf)
      refine T.cd rfl (fun h5=> ?_) (fun h5=> ?_)
      ·rw[if_pos ⟨h4,h5⟩]at hst
       obtain rfl:=iter_inl hR hst
       repeat(refine .A ?_;conv=>whnf)
       exact⟨_,.o rfl rfl rfl (fun _=> .inl rfl) (by simp) (.v rfl rfl rfl (fun _=>rfl) .nil)⟩
      ·rw[if_neg (fun e=>h5 e.2)]at hst
       obtain⟨m',hm',hR'⟩:=iter_inr hR hst
       repeat(refine .A ?_;conv=>whnf)
       refine J.io rfl rfl rfl rfl rfl rfl rfl rfl rfl hv1.1 la rfl ?_
       refine J.w1 rfl rfl rfl rfl rfl rfl rfl rfl rfl rfl rfl (fun _=>rfl) (by simpa using la) ?_
       refine J.io rfl rfl rfl rfl rfl rfl rfl rfl rfl hv2.1 (by simpa using lb) rfl ?_
       refine J.w1 rfl rfl rfl rfl rfl rfl rfl rfl rfl rfl rfl (fun _=>rfl) (by simpa using lb) ?_
       repeat(refine .A ?_;conv=>whnf)
       refine T.K (ih (m',(out.set a.toNat x).set b.toNat y) ⟨hR',(hc.set _ _).set _ _,(hd.set _ (by omega)).set _ (by omega)⟩ hm')
     ·have h4: ¬x=da:=h4
      rw[if_neg (fun e=>h4 e.1)]at hst
      obtain⟨m',hm',hR'⟩:=iter_inr hR hst
      repeat(refine .A ?_;conv=>whnf)
      refine T.cf rfl ?_
      repeat(refine .A ?_;conv=>whnf)
      refine J.io rfl rfl rfl rfl rfl rfl rfl rfl rfl hv1.1 la rfl ?_
      refine J.w1 rfl rfl rfl rfl rfl rfl rfl rfl rfl rfl rfl (fun _=>rfl) (by simpa using la) ?_
      refine J.io rfl rfl rfl rfl rfl rfl rfl rfl rfl hv2.1 (by simpa using lb) rfl ?_
      refine J.w1 rfl rfl rfl rfl rfl rfl rfl rfl rfl rfl rfl (fun _=>rfl) (by simpa using lb) ?_
      repeat(refine .A ?_;conv=>whnf)
      refine T.K (ih (m',(out.set a.toNat x).set b.toNat y) ⟨hR',(hc.set _ _).set _ _,(hd.set _ (by omega)).set _ (by omega)⟩ hm')
theorem packF_length: ∀(l:List Int) (lo x:Int),(packF lo x l).length≤l.length+1
 | [],lo,x=>by simp[packF]
 |y::l,lo,x=>by
  have h1:=packF_length l lo y
  have h2:=packF_length l y y
  simp only[packF];split<;>simp only[List.length_cons]<;>omega
theorem pack_length (l:List Int):(pack l).length≤l.length:=by
 cases l with
 |nil=>simp[pack]
 |cons x l=>have:=packF_length l x x;simpa[pack]using this
theorem cutR_length {d:List (Int×Int)}(h:DomB d)(lo hi:Int):((cutR d lo hi).length)*16≤140737488355328:=by
 have h1:=pack_length ((vals d).filter fun v=>decide (lo≤v)&&decide (v≤hi))
 have h2:=List.length_filter_le (fun v=>decide (lo≤v)&&decide (v≤hi)) (vals d)
 have h3:=h.2.1
 unfold cutR;omega
theorem pruneR_spec (d:Doms)(c:Con)(hc:VarsIn d c)(hd:d.length*24≤140737488355328)(Inv:Doms→Prop)(hi1: ∀out,Inv out→∀x∈out,DomB x)(hi2: ∀out next,Inv out→VarsIn out c→stepR c out= .inr next→Inv next)(h0:Inv d)
  (R:Option Doms) (N:Nat) (hR:if []∈d then R=none else iter (stepR c) N d=some R):Spec Tryz.prog 42 false [doms d,.agg (cC c)] (pruneRes R):=by
 refine Spec.body Tryz.func42 rfl rfl rfl fun w0 Z0=> ?_
 have hh:=half_le c
 repeat(refine .A ?_;conv=>whnf)
 refine .C (empty_spec d (by omega)) ?_
 repeat(refine .A ?_;conv=>whnf)
 refine T.cd rfl (fun h1=> ?_) (fun h1=> ?_)
 ·rw[if_pos h1]at hR
  subst hR
  repeat(refine .A ?_;conv=>whnf)
  exact⟨_,.ownN rfl (.v rfl rfl rfl (fun _=>rfl) .nil)⟩
 ·rw[if_neg h1]at hR
  repeat(refine .A ?_;conv=>whnf)
  refine .C (lists_spec d (by omega) (fun x hx=>(hi1 d h0 x hx).2.2)) ?_
  repeat(refine .A ?_;conv=>whnf)
  have e1:IntKind.i64.wrap (((c.vars.map cI).length:Int).tdiv 2)=(halfOf c:Int):=by
   have:=hc.1
   rw[List.length_map,Int.tdiv_eq_ediv_of_nonneg (by omega),wrap_id (by omega) (by omega)]
   simp[halfOf]
  rw[e1]
  refine T.K (T.ind (fun(s:Nat×Doms)=>⟨[(3,.optr 0 0 0 0),(6,.ref 1),(7,.val true (.int .i64 (halfOf c)))],[(0,some (.box false (cC c))),(1,some (.sl 45 1 true (s.2.map cD)))],2⟩)
   (fun s=>iter (stepR c) s.1 s.2=some R∧VarsIn s.2 c∧s.2.length*24≤140737488355328∧Inv s.2) (fun s=>s.1) (N,d) ⟨hR,hc,hd,h0⟩ (fun _ _ h=>h) ?_)
  rintro⟨m,out⟩ ⟨hR,hc,hd,hI⟩ ih
  simp only at hR hc hd hI ih
  dsimp only
  have hcv:=hc.1
  have hB:=hi1 out hI
  repeat(refine .A ?_;conv=>whnf)
  refine .C (placeR_spec out c hc hB) ?_
  repeat(refine .A ?_;conv=>whnf)
  have hpl:placeR out c≤halfOf c:=placeF_le _ _
  have hst:stepR c out=stepR c out:=rfl
  conv at hst=>rhs;unfold stepR
  generalize placeR out c=k at*
  refine T.cd rfl (fun h1=> ?_) (fun h1=> ?_)
  ·have h1:k=halfOf c:=by omega
   rw[if_pos h1]at hst
   obtain rfl:=iter_inl hR hst
   repeat(refine .A ?_;conv=>whnf)
   exact⟨_,.o rfl rfl rfl (fun _=> .inl rfl) (by simp) (.v rfl rfl rfl (fun _=>rfl) .nil)⟩
  ·have h1: ¬k=halfOf c:=by omega
   rw[if_neg h1]at hst
   have hv1:=hc.2 _ (varAt_mem (c:=c) (k:=k) (by omega))
   have hv2:=hc.2 _ (varAt_mem (c:=c) (k:=halfOf c+k) (by omega))
   have hm1:=hB _ (domAt_mem hv1.2)
   have hm2:=hB _ (domAt_mem hv2.2)
   have ra:(out.map cD)[(varAt c k).toNat]? =some (cD (domAt out (varAt c k))):=by simp[domAt_some hv1.2]
   have rb:(out.map cD)[(varAt c (halfOf c+k)).toNat]? =some (cD (domAt out (varAt c (halfOf c+k)))):=by simp[domAt_some hv2.2]
   have la:(varAt c k).toNat<(out.map cD).length:=by simpa using hv1.2
   have lb:(varAt c (halfOf c+k)).toNat<(out.map cD).length:=by simpa using hv2.2
   have ka:=varAt_row (c:=c) (k:=k) (by omega)
   have kb:=varAt_row (c:=c) (k:=halfOf c+k) (by omega)
   simp only at hst
   generalize varAt c k=a at*
   generalize varAt c (halfOf c+k)=b at*
   generalize domAt out a=da at*
   generalize domAt out b=db at*
   repeat(refine .A ?_;conv=>whnf)
   refine .I (r:=cI a) ka ?_
   repeat(refine .A ?_;conv=>whnf)
   rw[show IntKind.i64.wrap ((halfOf c:Int)+(k:Int))=((halfOf c+k:Nat):Int)by rw[wrap_id (by omega) (by omega)];omega]
   refine .I (r:=cI b) kb ?_
   repeat(refine .A ?_;conv=>whnf)
   refine .C (lists_spec out (by omega) (fun x hx=>(hB x hx).2.2)) ?_
   repeat(refine .A ?_;conv=>whnf)
   refine J.io rfl rfl rfl rfl rfl rfl rfl rfl rfl hv1.1 la rfl ?_
   refine J.lo rfl rfl rfl rfl rfl rfl (r:=cD da) ra rfl ?_
   repeat(refine .A ?_;conv=>whnf)
   refine .C (ends_spec da hm1) ?_
   repeat(refine .A ?_;conv=>whnf)
   refine J.io rfl rfl rfl rfl rfl rfl rfl rfl rfl hv2.1 lb rfl ?_
   refine J.lo rfl rfl rfl rfl rfl rfl (r:=cD db) rb rfl ?_
   repeat(refine .A ?_;conv=>whnf)
   refine .C (ends_spec db hm2) ?_
   repeat(refine .A ?_;conv=>whnf)
   refine J.io rfl rfl rfl rfl rfl rfl rfl rfl rfl hv1.1 la rfl ?_
   refine J.lo rfl rfl rfl rfl rfl rfl (r:=cD da) ra rfl ?_
   repeat(refine .A ?_;conv=>whnf)
   refine .C (cut_spec da (endsR da).1 (endsR db).2.1 hm1).frz ?_
   repeat(refine .A ?_;conv=>whnf)
   refine J.io rfl rfl rfl rfl rfl rfl rfl rfl rfl hv1.1 la rfl ?_
   refine J.w1 rfl rfl rfl rfl rfl rfl rfl rfl rfl rfl rfl (fun _=>rfl) (by simpa using la) ?_
   repeat(refine .A ?_;conv=>whnf)
   refine J.io rfl rfl rfl rfl rfl rfl rfl rfl rfl hv2.1 lb rfl ?_
   refine J.lo rfl rfl rfl rfl rfl rfl (r:=cD db) rb rfl ?_
   repeat(refine .A ?_;conv=>whnf)
   refine .C (cut_spec db (endsR da).1 (max (endsR da).1 1048576) hm2).frz ?_
   repeat(refine .A ?_;conv=>whnf)
   refine J.io rfl rfl rfl rfl rfl rfl rfl rfl rfl hv2.1 (by simpa using lb) rfl ?_
   refine J.w1 rfl rfl rfl rfl rfl rfl rfl rfl rfl rfl rfl (fun _=>rfl) (by simpa using lb) ?_
   repeat(refine .A ?_;conv=>whnf)
   have hxl:=cutR_length hm1 (endsR da).1 (endsR db).2.1
   have hyl:=cutR_length hm2 (endsR da).1 (max (endsR da).1 1048576)
   generalize cutR da (endsR da).1 (endsR db).2.1=x at*
   generalize cutR db (endsR da).1 (max (endsR da).1 1048576)=y at*
   have hnl:((out.set a.toNat x).set b.toNat y).length=out.length:=by simp
   have hnx: ∀z∈(out.set a.toNat x).set b.toNat y,z.length*16≤140737488355328:=by
    intro z hz
    rcases List.mem_or_eq_of_mem_set hz with hz|rfl
    ·rcases List.mem_or_eq_of_mem_set hz with hz|rfl
     ·exact(hB z hz).2.2
     ·exact hxl
    ·exact hyl
   have hvn:VarsIn ((out.set a.toNat x).set b.toNat y) c:=(hc.set _ _).set _ _
   generalize (out.set a.toNat x).set b.toNat y=next at*
   refine .C (empty_spec next (by omega)) ?_
   repeat(refine .A ?_;conv=>whnf)
   refine T.cd rfl (fun h2=> ?_) (fun h2=> ?_)
   ·rw[if_pos h2]at hst
    obtain rfl:=iter_inl hR hst
    repeat(refine .A ?_;conv=>whnf)
    exact⟨_,.ownN rfl (.v rfl rfl rfl (fun _=>rfl) .nil)⟩
   ·rw[if_neg h2]at hst
    repeat(refine .A ?_;conv=>whnf)
    refine .C (sames_spec next out (by omega) (fun z hz=>by have:=hnx z hz;omega)) ?_
    repeat(refine .A ?_;conv=>whnf)
    refine T.cd rfl (fun h3=> ?_) (fun h3=> ?_)
    ·rw[if_pos h3]at hst
     obtain rfl:=iter_inl hR hst
     repeat(refine .A ?_;conv=>whnf)
     exact⟨_,.o rfl rfl rfl (fun _=> .inl rfl) (by simp) (.v rfl rfl rfl (fun _=>rfl) .nil)⟩
    ·rw[if_neg h3]at hst
     obtain⟨m',hm',hR'⟩:=iter_inr hR hst
     repeat(refine .A ?_;conv=>whnf)
     exact T.K (ih (m',next) ⟨hR',hvn,by simp only;omega,hi2 out next hI hc hst⟩ hm')
theorem numss_spec (d:List (List Int))(hl:d.length*24≤140737488355328)(hx: ∀x∈d,x.length*8≤140737488355328):Spec Tryz.prog 106 false [lists d] [.own 24 1 (d.map cL)]:=by
 refine Spec.body Tryz.func106 rfl rfl rfl fun w0 Z0=> ?_
 repeat(refine .A ?_;conv=>whnf)
 refine .O ?_
 repeat(refine .A ?_;conv=>whnf)
 refine T.K (T.list d (fun n pre post=>⟨[(0,.val false (lists d)),(3,.ref 0),(4,.val true (.int .i64 n))],[(0,some (.sl 24 1 true (pre.map cL)))],1⟩) (fun _ _ h=>h) ?_ ?_)
 ·rintro n pre x post h hn ih
  have hlt:=at_lt h hn
  have hxl:=hx x (by rw[h];simp)
  repeat(refine .A ?_;conv=>whnf)
  refine T.ct2 rfl (lt_at h hn) ?_
  repeat(refine .A ?_;conv=>whnf)
  refine .O ?_
  repeat(refine .A ?_;conv=>whnf)
  refine .I (r:=cL x) (row_at h hn) ?_
  repeat(refine .A ?_;conv=>whnf)
  refine J.a rfl rfl rfl rfl rfl rfl rfl rfl rfl rfl rfl rfl rfl rfl rfl rfl rfl len_I (by show(0+List.length _)*8≤_;simp;omega) ?_
  repeat(refine .A ?_;conv=>whnf)
  refine J.sub (Rel.flat (o:=2) rfl flat_I) ?_
  refine J.sub (Rel.frz (s:=18) (fun _ h=>h) rfl rfl) ?_
  refine .V ?_
  repeat(refine .A ?_;conv=>whnf)
  refine J.a1 (enc:=cL) (x:=x) (B:=24) rfl rfl rfl rfl rfl rfl rfl rfl rfl rfl rfl rfl rfl rfl rfl rfl rfl rfl rfl rfl (by omega) ?_
  repeat(refine .A ?_;conv=>whnf)
  rw[wrap1 hlt (by omega)]
  exact T.K ih
 ·repeat(refine .A ?_;conv=>whnf)
  refine T.cf2 rfl lt_end ?_
  repeat(refine .A ?_;conv=>whnf)
  exact⟨_,.o rfl rfl rfl (fun _=> .inl rfl) (by simp) .nil⟩
def ConB (c:Con):Prop:=(c.vars.length+1)*8≤140737488355328∧c.coefs.length*8≤140737488355328∧c.rows.length*24≤140737488355328∧∀x∈c.rows,x.length*8≤140737488355328
theorem own_spec (c:Con)(hc:ConB c):Spec Tryz.prog 57 true [.agg (cC c)] [.val (.agg (cC c))]:=by
 refine Spec.body Tryz.func57 rfl rfl rfl fun w0 Z0=> ?_
 obtain⟨h1,h2,h3,h4⟩:=hc
 repeat(refine .A ?_;conv=>whnf)
 refine J.al rfl rfl rfl rfl rfl rfl rfl ?_
 repeat(refine .A ?_;conv=>whnf)
 refine .O ?_
 repeat(refine .A ?_;conv=>whnf)
 refine J.a rfl rfl rfl rfl rfl rfl rfl rfl rfl rfl rfl rfl rfl rfl rfl rfl rfl len_I (by show(0+List.length _)*8≤_;simp;omega) ?_
 refine J.sub (Rel.frz (s:=6) (fun _ h=>h) rfl rfl) ?_
 repeat(refine .A ?_;conv=>whnf)
 refine J.w rfl rfl rfl rfl rfl rfl rfl rfl rfl rfl ?_
 repeat(refine .A ?_;conv=>whnf)
 refine .O ?_
 repeat(refine .A ?_;conv=>whnf)
 refine J.a rfl rfl rfl rfl rfl rfl rfl rfl rfl rfl rfl rfl rfl rfl rfl rfl rfl len_I (by show(0+List.length _)*8≤_;simp;omega) ?_
 refine J.sub (Rel.frz (s:=11) (fun _ h=>h) rfl rfl) ?_
 repeat(refine .A ?_;conv=>whnf)
 refine J.w rfl rfl rfl rfl rfl rfl rfl rfl rfl rfl ?_
 repeat(refine .A ?_;conv=>whnf)
 refine .C (numss_spec c.rows h3 h4).frz ?_
 repeat(refine .A ?_;conv=>whnf)
 refine J.w rfl rfl rfl rfl rfl rfl rfl rfl rfl rfl ?_
 repeat(refine .A ?_;conv=>whnf)
 refine J.w rfl rfl rfl rfl rfl rfl rfl rfl rfl rfl ?_
 repeat(refine .A ?_;conv=>whnf)
 exact⟨_,.c rfl rfl rfl rfl (fun h=>by cases h) .nil⟩
def usesR (c:Con):List Int:=sortU (if c.kind=4 then c.vars++[c.b]else c.vars)
theorem uses_spec (c:Con)(hc:ConB c):Spec Tryz.prog 108 false [.agg (cC c)] [.own 3 1 ((usesR c).map cI)]:=by
 refine Spec.body Tryz.func108 rfl rfl rfl fun w0 Z0=> ?_
 obtain⟨h1,h2,h3,h4⟩:=hc
 repeat(refine .A ?_;conv=>whnf)
 refine .O ?_
 repeat(refine .A ?_;conv=>whnf)
 refine J.a rfl rfl rfl rfl rfl rfl rfl rfl rfl rfl rfl rfl rfl rfl rfl rfl rfl len_I (by show(0+List.length _)*8≤_;simp;omega) ?_
 refine J.sub (Rel.flat (o:=2) rfl flat_I) ?_
 repeat(refine .A ?_;conv=>whnf)
 refine T.cd rfl (fun h=> ?_) (fun h=> ?_)
 ·have e:usesR c=sortU (c.vars++[c.b]):=by unfold usesR;rw[if_pos (show c.kind=4 from h)]
  rw[e]
  repeat(refine .A ?_;conv=>whnf)
  refine .V ?_
  repeat(refine .A ?_;conv=>whnf)
  refine J.aI rfl rfl rfl rfl rfl rfl rfl rfl rfl rfl rfl rfl rfl rfl rfl rfl rfl rfl rfl (l:=c.vars) (by omega) ?_
  repeat(refine .A ?_;conv=>whnf)
  refine .C (sorted_spec (c.vars++[c.b]) (by simp;omega)) ?_
  repeat(refine .A ?_;conv=>whnf)
  exact⟨_,.o rfl rfl rfl (fun _=> .inl rfl) (by simp) .nil⟩
 ·have e:usesR c=sortU c.vars:=by unfold usesR;rw[if_neg (show¬c.kind=4 from h)]
  rw[e]
  repeat(refine .A ?_;conv=>whnf)
  refine .C (sorted_spec c.vars (by omega)) ?_
  repeat(refine .A ?_;conv=>whnf)
  exact⟨_,.o rfl rfl rfl (fun _=> .inl rfl) (by simp) .nil⟩
theorem others_spec (l:List Int)(hl:l.length*8≤140737488355328):Spec Tryz.prog 139 false [ints l] [.val (.bool (decide l.Nodup))]:=by
 refine Spec.body Tryz.func139 rfl rfl rfl fun w0 Z0=> ?_
 repeat(refine .A ?_;conv=>whnf)
 refine T.K (T.ind (fun i:Nat=>⟨[(0,.val false (ints l)),(3,.val true (.int .i64 i))],[],0⟩) (fun i=>i≤l.length∧(l.take i).Nodup) (fun i=>l.length-i) 0 (by simp) (fun _ _ h=>h) ?_)
 rintro i ⟨hi,hd⟩ ih
 repeat(refine .A ?_;conv=>whnf)
 refine T.cd rfl (fun h1=> ?_) (fun h1=> ?_)
 ·have h1:i<l.length:=by simpa using h1
  repeat(refine .A ?_;conv=>whnf)
  refine T.K (T.ind (fun k:Nat=>⟨[(0,.val false (ints l)),(3,.val true (.int .i64 i)),(4,.val true (.int .i64 k))],[],0⟩) (fun k=>k≤i∧l[i]∉l.take k) (fun k=>i-k) 0 (by simp) (fun _ _ h=>h) ?_)
  rintro k ⟨hk,hn⟩ ih2
  repeat(refine .A ?_;conv=>whnf)
  refine T.cd rfl (fun h2=> ?_) (fun h2=> ?_)
  ·have h2:k<i:=by omega
   repeat(refine .A ?_;conv=>whnf)
   refine .I (r:=cI l[i]) (row_i h1) ?_
   repeat(refine .A ?_;conv=>whnf)
   refine .I (r:=cI l[k]) (row_i (by omega)) ?_
   repeat(refine .A ?_;conv=>whnf)
   refine T.cd rfl (fun h3=> ?_) (fun h3=> ?_)
   ·repeat(refine .A ?_;conv=>whnf)
    refine⟨_,.v rfl rfl ?_ (fun _=>rfl) .nil⟩
    rw[decide_eq_false]
    intro h
    have:=List.pairwise_iff_getElem.1 h k i (by omega) h1 h2
    exact this (Eq.symm h3)
   ·repeat(refine .A ?_;conv=>whnf)
    rw[wrap1 (l:=l.length) (by omega) (by omega)]
    refine T.K (ih2 (k+1) ⟨by omega,?_⟩ (by omega))
    rw[List.take_succ_eq_append_getElem (by omega)]
    simp only[List.mem_append,List.mem_singleton,not_or]
    exact⟨hn,h3⟩
  ·have h2:k=i:=by omega
   subst h2
   repeat(refine .A ?_;conv=>whnf)
   rw[wrap1 (l:=l.length) (by omega) (by omega)]
   refine T.K (ih (k+1) ⟨by omega,?_⟩ (by omega))
   rw[List.take_succ_eq_append_getElem (by omega),List.nodup_append]
   refine⟨hd,by simp,?_⟩
   intro a ha b hb e
   simp only[List.mem_singleton]at hb
   subst hb e
   exact hn ha
 ·have h1:i=l.length:=by simp at h1;omega
  repeat(refine .A ?_;conv=>whnf)
  refine⟨_,.v rfl rfl ?_ (fun _=>rfl) .nil⟩
  rw[h1,List.take_length]at hd
  simp[hd]
def sumR (c:Con):Bool:=decide c.vars.Nodup&&decide (0<c.vars.length)&&decide (c.vars.length=c.coefs.length)&& !decide (0∈c.coefs)
theorem sum_spec (c:Con)(hc:ConB c):Spec Tryz.prog 140 false [.agg (cC c)] [.val (.bool (sumR c))]:=by
 refine Spec.body Tryz.func140 rfl rfl rfl fun w0 Z0=> ?_
 obtain⟨h1,h2,h3,h4⟩:=hc
 unfold sumR
 have ho:=others_spec c.vars (by omega)
 generalize decide c.vars.Nodup=b1 at*
 repeat(refine .A ?_;conv=>whnf)
 refine .C ho ?_
 repeat(refine .A ?_;conv=>whnf)
 refine J.gb rfl rfl rfl (fun h=> ?_) (fun h=> ?_)
 ·subst h
  repeat(refine .A ?_;conv=>whnf)
  refine J.g rfl rfl rfl (fun h=> ?_) (fun h=> ?_)
  ·have h:0<c.vars.length:=by simpa using h
   repeat(refine .A ?_;conv=>whnf)
   refine J.g rfl rfl rfl (fun h5=> ?_) (fun h5=> ?_)
   ·have h5:c.vars.length=c.coefs.length:=by simp only[List.length_map]at h5;omega
    repeat(refine .A ?_;conv=>whnf)
    refine .C (has_spec c.coefs 0 (by omega)) ?_
    repeat(refine .A ?_;conv=>whnf)
    exact⟨_,.v rfl rfl (by simp[h5];intro hh;omega) (fun _=>rfl) .nil⟩
   ·have h5: ¬c.vars.length=c.coefs.length:=by simp only[List.length_map]at h5;omega
    repeat(refine .A ?_;conv=>whnf)
    exact⟨_,.v rfl rfl (by simp[h5]) (fun _=>rfl) .nil⟩
  ·have h: ¬0<c.vars.length:=by simpa using h
   repeat(refine .A ?_;conv=>whnf)
   exact⟨_,.v rfl rfl (by simp[h]) (fun _=>rfl) .nil⟩
 ·subst h
  repeat(refine .A ?_;conv=>whnf)
  exact⟨_,.v rfl rfl (by simp) (fun _=>rfl) .nil⟩
def rowOK (c:Con)(r:List Int):Bool:=decide (r.length=c.vars.length)&&r.all valueB
def rowsR (c:Con):Bool:=c.rows.all (rowOK c)&&decide (c.rows.length≤1024)
theorem rows_spec (c:Con)(hc:ConB c):Spec Tryz.prog 141 false [.agg (cC c)] [.val (.bool (rowsR c))]:=by
 refine Spec.body Tryz.func141 rfl rfl rfl fun w0 Z0=> ?_
 obtain⟨h1,h2,h3,h4⟩:=hc
 repeat(refine .A ?_;conv=>whnf)
 refine T.K (T.listI c.rows (fun pre=>pre.all (rowOK c)=true) (fun n pre post=>⟨[(1,.optr 0 0 0 0),(3,.val true (.int .i64 n))],[(0,some (.box false (cC c)))],1⟩) (fun _ _ h=>h) rfl ?_ ?_)
 ·rintro n pre x post h hn hi ih
  have hlt:=at_lt h hn
  have hxl:=h4 x (by rw[h];simp)
  have hra:=row_at (enc:=cL) h hn
  have bad:rowOK c x=false→rowsR c=false:=fun e=>by rw[rowsR,h];simp[e]
  repeat(refine .A ?_;conv=>whnf)
  refine T.ct2 rfl (lt_at h hn) ?_
  repeat(refine .A ?_;conv=>whnf)
  refine .I (r:=cL x) hra ?_
  repeat(refine .A ?_;conv=>whnf)
  refine T.cd rfl (fun h5=> ?_) (fun h5=> ?_)
  ·have h5: ¬x.length=c.vars.length:=by simp only[List.length_map]at h5;omega
   rw[bad (by simp[rowOK,h5])]
   repeat(refine .A ?_;conv=>whnf)
   exact⟨_,.v rfl rfl rfl (fun _=>rfl) .nil⟩
  ·have h5:x.length=c.vars.length:=by simp only[List.length_map]at h5;omega
   repeat(refine .A ?_;conv=>whnf)
   refine T.K (T.listI x (fun pre=>pre.all valueB=true) (fun k pre post=>⟨[(1,.optr 0 0 0 0),(3,.val true (.int .i64 n)),(4,.val true (.int .i64 k))],[(0,some (.box false (cC c)))],1⟩) (fun _ _ h=>h) rfl ?_ ?_)
   ·rintro k pre2 y post2 h6 hk hi2 ih2
    have hlt2:=at_lt h6 hk
    repeat(refine .A ?_;conv=>whnf)
    refine .I (r:=cL x) hra ?_
    repeat(refine .A ?_;conv=>whnf)
    refine T.ct2 rfl (lt_at h6 hk) ?_
    repeat(refine .A ?_;conv=>whnf)
    refine .I (r:=cL x) hra ?_
    repeat(refine .A ?_;conv=>whnf)
    refine .I (r:=cI y) (row_at h6 hk) ?_
    repeat(refine .A ?_;conv=>whnf)
    refine .C (value_spec y) ?_
    repeat(refine .A ?_;conv=>whnf)
    refine T.cond rfl (fun h7=> ?_) (fun h7=> ?_)
    ·rw[bad (by simp only[Bool.not_eq_true']at h7;simp only[rowOK];rw[h6];simp[h7])]
     repeat(refine .A ?_;conv=>whnf)
     exact⟨_,.v rfl rfl rfl (fun _=>rfl) .nil⟩
    ·repeat(refine .A ?_;conv=>whnf)
     rw[wrap1 hlt2 (by omega)]
     exact T.K (ih2 (by simp only[Bool.not_eq_false']at h7;simp[List.all_append,hi2,h7]))
   ·intro hi2
    repeat(refine .A ?_;conv=>whnf)
    refine .I (r:=cL x) hra ?_
    repeat(refine .A ?_;conv=>whnf)
    refine T.cf2 rfl lt_end ?_
    repeat(refine .A ?_;conv=>whnf)
    rw[wrap1 hlt (by omega)]
    exact T.K (ih (by rw[List.all_append,hi];simp[rowOK,h5,hi2]))
 ·intro hi
  repeat(refine .A ?_;conv=>whnf)
  refine T.cf2 rfl lt_end ?_
  repeat(refine .A ?_;conv=>whnf)
  exact⟨_,.v rfl rfl (by rw[rowsR,hi];simp;omega) (fun _=>rfl) .nil⟩
def truthR (d:List (Int×Int)):Bool:=d.all fun r=> !(decide (r.1<0)||decide (1<r.2))
theorem truth_spec (d:List (Int×Int))(hd:d.length*8≤140737488355328):Spec Tryz.prog 142 false [dm d] [.val (.bool (truthR d))]:=by
 refine Spec.body Tryz.func142 rfl rfl rfl fun w0 Z0=> ?_
 repeat(refine .A ?_;conv=>whnf)
 refine T.K (T.listI d (fun pre=>truthR pre=true) (fun n pre post=>⟨[(0,.val false (dm d)),(3,.val true (.int .i64 n))],[],0⟩) (fun _ _ h=>h) rfl ?_ ?_)
 ·rintro n pre x post h hn hi ih
  have hlt:=at_lt h hn
  have hra:=row_at (enc:=cR) h hn
  have bad:(decide (x.1<0)||decide (1<x.2))=true→truthR d=false:=fun e=>by
   rw[truthR,h,List.all_append,List.all_cons,e]
   simp
  repeat(refine .A ?_;conv=>whnf)
  refine T.ct2 rfl (lt_at h hn) ?_
  repeat(refine .A ?_;conv=>whnf)
  refine .I (r:=cR x) hra ?_
  repeat(refine .A ?_;conv=>whnf)
  refine J.g rfl rfl rfl (fun h1=> ?_) (fun h1=> ?_)
  ·rw[bad (by simp[show x.1<0 from h1])]
   repeat(refine .A ?_;conv=>whnf)
   refine T.ct rfl ?_
   repeat(refine .A ?_;conv=>whnf)
   exact⟨_,.v rfl rfl rfl (fun _=>rfl) .nil⟩
  ·repeat(refine .A ?_;conv=>whnf)
   refine .I (r:=cR x) hra ?_
   repeat(refine .A ?_;conv=>whnf)
   refine T.cd rfl (fun h2=> ?_) (fun h2=> ?_)
   ·rw[bad (by simp[show x.2 > 1 from h2])]
    repeat(refine .A ?_;conv=>whnf)
    exact⟨_,.v rfl rfl rfl (fun _=>rfl) .nil⟩
   ·repeat(refine .A ?_;conv=>whnf)
    rw[wrap1 hlt (by omega)]
    refine T.K (ih ?_)
    simp only[truthR,List.all_append,Bool.and_eq_true]at hi⊢
    refine⟨hi,?_⟩
    simp[show¬x.1<0 from h1,show¬1<x.2 from h2]
 ·intro hi
  repeat(refine .A ?_;conv=>whnf)
  refine T.cf2 rfl lt_end ?_
  repeat(refine .A ?_;conv=>whnf)
  exact⟨_,.v rfl rfl (by rw[hi]) (fun _=>rfl) .nil⟩
def bigGo (room:Int):List Int→Bool
 | []=>false
 |x::xs=>if 4398046511104<x∨x< -4398046511104 then true else if room-max x (-x)*1048576<0 then true else bigGo (room-max x (-x)*1048576) xs
def bigR (l:List Int)(rhs:Int):Bool:=if 4611686018427387904<rhs∨rhs< -4611686018427387904 then true else bigGo (4611686018427387904-max rhs (-rhs)) l
theorem big_spec (l:List Int)(rhs:Int)(hl:l.length*8≤140737488355328):Spec Tryz.prog 110 false [ints l,.int .i64 rhs] [.val (.bool (bigR l rhs))]:=by
 refine Spec.body Tryz.func110 rfl rfl rfl fun w0 Z0=> ?_
 unfold bigR
 repeat(refine .A ?_;conv=>whnf)
 refine J.g rfl rfl rfl (fun h1=> ?_) (fun h1=> ?_)
 ·rw[if_pos (.inl h1)]
  repeat(refine .A ?_;conv=>whnf)
  refine T.ct rfl ?_
  repeat(refine .A ?_;conv=>whnf)
  exact⟨_,.v rfl rfl rfl (fun _=>rfl) .nil⟩
 ·have h1: ¬4611686018427387904<rhs:=h1
  repeat(refine .A ?_;conv=>whnf)
  rw[show IntKind.i64.wrap (0-4611686018427387904)= -4611686018427387904 by rfl]
  refine T.cd rfl (fun h2=> ?_) (fun h2=> ?_)
  ·rw[if_pos (.inr h2)]
   repeat(refine .A ?_;conv=>whnf)
   exact⟨_,.v rfl rfl rfl (fun _=>rfl) .nil⟩
  ·rw[if_neg (by omega)]
   repeat(refine .A ?_;conv=>whnf)
   rw[wrap_id (n:=0-rhs) (by omega) (by omega),show(0:Int)-rhs= -rhs by omega,wrap_id (n:=4611686018427387904-max rhs (-rhs)) (by omega) (by omega)]
   refine T.K (T.ind (fun(s:Nat×Int)=>⟨[(0,.val false (ints l)),(5,.val true (.int .i64 s.2)),(6,.val true (.int .i64 s.1))],[],0⟩)
    (fun s=>s.1≤l.length∧0≤s.2∧s.2≤4611686018427387904∧bigGo s.2 (l.drop s.1)=bigGo (4611686018427387904-max rhs (-rhs)) l) (fun s=>l.length-s.1) (0,4611686018427387904-max rhs (-rhs)) ⟨by simp,by simp only;omega,by simp only;omega,by simp⟩ (fun _ _ h=>h) ?_)
   rintro⟨i,room⟩ ⟨hi,hr0,hr1,he⟩ ih
   simp only at hi hr0 hr1 he ih
   rw[←he]
   dsimp only
   repeat(refine .A ?_;conv=>whnf)
   refine T.cd rfl (fun h3=> ?_) (fun h3=> ?_)
   ·have h3:i<l.length:=by simpa using h3
    rw[List.drop_eq_getElem_cons h3,bigGo]at he⊢
    repeat(refine .A ?_;conv=>whnf)
    refine .I (r:=cI l[i]) (row_i h3) ?_
    repeat(refine .A ?_;conv=>whnf)
    refine J.g rfl rfl rfl (fun h4=> ?_) (fun h4=> ?_)
    ·rw[if_pos (.inl h4)]
     repeat(refine .A ?_;conv=>whnf)
     refine T.ct rfl ?_
     repeat(refine .A ?_;conv=>whnf)
     exact⟨_,.v rfl rfl rfl (fun _=>rfl) .nil⟩
    ·have h4: ¬l[i] > 4398046511104:=h4
     repeat(refine .A ?_;conv=>whnf)
     refine .I (r:=cI l[i]) (row_i h3) ?_
     repeat(refine .A ?_;conv=>whnf)
     refine T.cd rfl (fun h5=> ?_) (fun h5=> ?_)
     ·rw[if_pos (.inr h5)]
      repeat(refine .A ?_;conv=>whnf)
      exact⟨_,.v rfl rfl rfl (fun _=>rfl) .nil⟩
     ·have h5: ¬l[i]< -4398046511104:=h5
      rw[if_neg (by omega)]at he⊢
      repeat(refine .A ?_;conv=>whnf)
      refine .I (r:=cI l[i]) (row_i h3) ?_
      repeat(refine .A ?_;conv=>whnf)
      refine .I (r:=cI l[i]) (row_i h3) ?_
      repeat(refine .A ?_;conv=>whnf)
      rw[wrap_id (n:=0-l[i]) (by omega) (by omega),show(0:Int)-l[i]= -l[i]by omega,wrap_id (n:=max l[i] (-l[i])*1048576) (by omega) (by omega),wrap_id (n:=room-max l[i] (-l[i])*1048576) (by omega) (by omega)]
      refine T.cd rfl (fun h6=> ?_) (fun h6=> ?_)
      ·rw[if_pos h6]
       repeat(refine .A ?_;conv=>whnf)
       exact⟨_,.v rfl rfl rfl (fun _=>rfl) .nil⟩
      ·have h6: ¬room-max l[i] (-l[i])*1048576<0:=h6
       rw[if_neg h6]at he⊢
       repeat(refine .A ?_;conv=>whnf)
       rw[wrap1 h3 (by omega),he]
       exact T.K (ih (i+1,room-max l[i] (-l[i])*1048576) ⟨by simp only;omega,by simp only;omega,by simp only;omega,by simp only;exact he⟩ (by simp only;omega))
   ·have h3: ¬i<l.length:=by simpa using h3
    repeat(refine .A ?_;conv=>whnf)
    exact⟨_,.v rfl rfl (by rw[List.drop_of_length_le (by omega)];rfl) (fun _=>rfl) .nil⟩
def coefAt (c:Con)(k:Nat):Int:=c.coefs.getD k 0
def unitAt (d:Doms)(c:Con)(i:Nat):Bool:=truthR (domAt d (varAt c i))&&(decide (coefAt c i=1)||decide (coefAt c i= -1))
def unitsR (d:Doms)(c:Con):Bool:=(List.range c.vars.length).all (unitAt d c)
theorem coefAt_row {c:Con}{k:Nat}(h:k<c.coefs.length):(c.coefs.map cI)[((k:Nat):Int).toNat]? =some (cI (coefAt c k)):=by
 simp[coefAt,h]
theorem units_spec (d:Doms)(c:Con)(hc:VarsIn d c)(hl:c.vars.length=c.coefs.length)(hd: ∀x∈d,x.length*8≤140737488355328):Spec Tryz.prog 143 false [doms d,.agg (cC c)] [.val (.bool (unitsR d c))]:=by
 refine Spec.body Tryz.func143 rfl rfl rfl fun w0 Z0=> ?_
 obtain⟨h1,h2⟩:=hc
 repeat(refine .A ?_;conv=>whnf)
 refine T.K (T.ind (fun i:Nat=>⟨[(0,.val false (doms d)),(3,.optr 0 0 0 0),(5,.val true (.int .i64 i))],[(0,some (.box false (cC c)))],1⟩) (fun i=>i≤c.vars.length∧∀j,j<i→unitAt d c j=true) (fun i=>c.vars.length-i) 0 (by simp) (fun _ _ h=>h) ?_)
 rintro i ⟨hi,hp⟩ ih
 repeat(refine .A ?_;conv=>whnf)
 refine T.cd rfl (fun h3=> ?_) (fun h3=> ?_)
 ·have h3:i<c.vars.length:=by simpa using h3
  have hv:=h2 _ (varAt_mem h3)
  have ra:(d.map cD)[(varAt c i).toNat]? =some (cD (domAt d (varAt c i))):=by simp[domAt_some hv.2]
  have hu:unitAt d c i=(truthR (domAt d (varAt c i))&&(decide (coefAt c i=1)||decide (coefAt c i= -1))):=rfl
  have ht:=truth_spec (domAt d (varAt c i)) (hd _ (domAt_mem hv.2))
  have bad:unitAt d c i=false→unitsR d c=false:=fun e=>by
   rw[unitsR,List.all_eq_false]
   exact⟨i,List.mem_range.2 h3,by simp[e]⟩
  have good:unitAt d c i=true→T _ _ _ _:=fun e=>ih (i+1) ⟨by omega,fun j hj=>by
   by_cases e2:j=i
   ·rw[e2];exact e
   ·exact hp j (by omega)⟩ (by omega)
  repeat(refine .A ?_;conv=>whnf)
  refine .I (r:=cI (varAt c i)) (varAt_row h3) ?_
  repeat(refine .A ?_;conv=>whnf)
  refine J.i rfl rfl rfl rfl rfl rfl rfl rfl rfl (r:=cD (domAt d (varAt c i))) hv.1 ra rfl ?_
  repeat(refine .A ?_;conv=>whnf)
  refine .C ht ?_
  generalize truthR (domAt d (varAt c i))=tr at*
  cases tr
  ·rw[bad hu]
   repeat(refine .A ?_;conv=>whnf)
   refine T.ct rfl ?_
   repeat(refine .A ?_;conv=>whnf)
   exact⟨_,.v rfl rfl rfl (fun _=>rfl) .nil⟩
  ·rw[Bool.true_and]at hu
   repeat(refine .A ?_;conv=>whnf)
   refine .I (r:=cI (coefAt c i)) (coefAt_row (by omega)) ?_
   repeat(refine .A ?_;conv=>whnf)
   refine J.g rfl rfl rfl (fun h4=> ?_) (fun h4=> ?_)
   ·have h4: ¬coefAt c i=1:=h4
    repeat(refine .A ?_;conv=>whnf)
    refine .I (r:=cI (coefAt c i)) (coefAt_row (by omega)) ?_
    repeat(refine .A ?_;conv=>whnf)
    refine T.cd rfl (fun h5=> ?_) (fun h5=> ?_)
    ·have h5: ¬coefAt c i= -1:=h5
     rw[bad (by rw[hu];simp[h4,h5])]
     repeat(refine .A ?_;conv=>whnf)
     exact⟨_,.v rfl rfl rfl (fun _=>rfl) .nil⟩
    ·have h5:coefAt c i= -1:=Classical.not_not.1 h5
     repeat(refine .A ?_;conv=>whnf)
     rw[wrap1 h3 (by omega)]
     exact T.K (good (by rw[hu];simp[h5]))
   ·have h4:coefAt c i=1:=Classical.not_not.1 h4
    repeat(refine .A ?_;conv=>whnf)
    refine T.cf rfl ?_
    repeat(refine .A ?_;conv=>whnf)
    rw[wrap1 h3 (by omega)]
    exact T.K (good (by rw[hu];simp[h4]))
 ·have h3:i=c.vars.length:=by simp at h3;omega
  repeat(refine .A ?_;conv=>whnf)
  refine⟨_,.v rfl rfl ?_ (fun _=>rfl) .nil⟩
  simp only[PV.bool.injEq]
  rw[eq_comm,unitsR,List.all_eq_true]
  intro j hj
  exact hp j (by have:=List.mem_range.1 hj;omega)
def bareR (c:Con):Bool:=decide (c.op=0)&&decide (c.rhs=0)&&decide (c.b=0)
def opR (c:Con):Bool:=decide (0≤c.op)&&decide (c.op≤2)
def manyR (c:Con):Bool:=decide (0<c.vars.length)&&decide c.vars.Nodup
def noneR (c:Con):Bool:=decide (c.rows.length=0)
def plainR (c:Con):Bool:=bareR c&&decide (c.coefs.length=0)
def rightR (d:Doms)(c:Con):Bool:=
 if c.kind=0 then noneR c&&sumR c&&opR c&&decide (c.b=0)else
 if c.kind=1 then noneR c&&plainR c&&manyR c else
 if c.kind=2 then plainR c&&manyR c&&rowsR c else
 if c.kind=3 then noneR c&&plainR c&&manyR c&&decide (3≤c.vars.length)else
 if c.kind=4 then noneR c&&sumR c&&opR c&&truthR (domAt d c.b)&& !decide (c.b∈c.vars)else
 if c.kind=5 then noneR c&&bareR c&&sumR c&&unitsR d c else
 noneR c&&plainR c&&decide (2≤c.vars.length)&&decide (c.vars.length % 2=0)
theorem right_spec (d:Doms)(c:Con)(hc:ConB c)(hv:VarsIn d c)(hb:c.kind=4→0≤c.b∧c.b.toNat<d.length)(hd: ∀x∈d,x.length*8≤140737488355328):Spec Tryz.prog 109 false [doms d,.agg (cC c)] [.val (.bool (rightR d c))]:=by
 refine Spec.body Tryz.func109 rfl rfl rfl fun w0 Z0=> ?_
 have hsum:=sum_spec c hc
 have hrows:=rows_spec c hc
 have hunits:sumR c=true→Spec Tryz.prog 143 false [doms d,.agg (cC c)] [.val (.bool (unitsR d c))]:=fun h=>units_spec d c hv (by simp[sumR]at h;omega) hd
 have hoth:=others_spec c.vars (by have:=hc.1;omega)
 have hbm:=has_spec c.vars c.b (by have:=hc.1;omega)
 refine T.seq ?_
 refine T.r ?_
 repeat' first|refine J.e rfl rfl rfl rfl ?_|refine J.skip rfl rfl rfl ?_|refine J.bx rfl rfl rfl rfl rfl rfl ?_
 refine J.nil ?_
 refine T.mid ⟨[(0,.val false (doms d)),(3,.optr 0 0 0 0),(5,.val true (.bool (bareR c)))],[(0,some (.box false (cC c)))],1⟩ ?_ ?_
 ·repeat(refine .A ?_;conv=>whnf)
  refine J.g rfl rfl rfl (fun h1=> ?_) (fun h1=> ?_)
  ·repeat(refine .A ?_;conv=>whnf)
   refine J.g rfl rfl rfl (fun h2=> ?_) (fun h2=> ?_)
   ·rw[show bareR c=decide (c.b=0)by simp[bareR,show c.op=0 from h1,show c.rhs=0 from h2]]
    repeat(refine .A ?_;conv=>whnf)
    exact⟨rfl,[0,3,5],[3],rfl,rfl⟩
   ·rw[show bareR c=false by simp[bareR,show¬c.rhs=0 from h2]]
    repeat(refine .A ?_;conv=>whnf)
    exact⟨rfl,[0,3,5],[3],rfl,rfl⟩
  ·rw[show bareR c=false by simp[bareR,show¬c.op=0 from h1]]
   repeat(refine .A ?_;conv=>whnf)
   exact⟨rfl,[0,3,5],[3],rfl,rfl⟩
 refine T.mid ⟨[(0,.val false (doms d)),(3,.optr 0 0 0 0),(5,.val true (.bool (bareR c))),(6,.val true (.bool (plainR c)))],[(0,some (.box false (cC c)))],1⟩ ?_ ?_
 ·rw[show plainR c=(bareR c&&decide (((c.coefs.map cI).length:Int)=0))by simp[plainR]]
  generalize bareR c=bb
  cases bb
  ·repeat(refine .A ?_;conv=>whnf)
   exact⟨rfl,[0,3,5,6],[3],rfl,rfl⟩
  ·repeat(refine .A ?_;conv=>whnf)
   exact⟨rfl,[0,3,5,6],[3],rfl,rfl⟩
 refine T.mid ⟨[(0,.val false (doms d)),(3,.optr 0 0 0 0),(5,.val true (.bool (bareR c))),(6,.val true (.bool (plainR c))),(7,.val true (.bool (opR c)))],[(0,some (.box false (cC c)))],1⟩ ?_ ?_
 ·repeat(refine .A ?_;conv=>whnf)
  refine J.g rfl rfl rfl (fun h1=> ?_) (fun h1=> ?_)
  ·rw[show opR c=decide (c.op≤2)by simp[opR,show c.op≥0 from h1]]
   repeat(refine .A ?_;conv=>whnf)
   exact⟨rfl,[0,3,5,6,7],[3],rfl,rfl⟩
  ·rw[show opR c=false by simp[opR,show¬0≤c.op from h1]]
   repeat(refine .A ?_;conv=>whnf)
   exact⟨rfl,[0,3,5,6,7],[3],rfl,rfl⟩
 refine T.mid ⟨[(0,.val false (doms d)),(3,.optr 0 0 0 0),(5,.val true (.bool (bareR c))),(6,.val true (.bool (plainR c))),(7,.val true (.bool (opR c))),(8,.val true (.bool (manyR c)))],[(0,some (.box false (cC c)))],1⟩ ?_ ?_
 ·repeat(refine .A ?_;conv=>whnf)
  refine J.g rfl rfl rfl (fun h1=> ?_) (fun h1=> ?_)
  ·rw[show manyR c=decide c.vars.Nodup by simp only[List.length_map]at h1;simp[manyR];omega]
   repeat(refine .A ?_;conv=>whnf)
   refine .C hoth ?_
   repeat(refine .A ?_;conv=>whnf)
   exact⟨rfl,[0,3,5,6,7,8],[3],rfl,rfl⟩
  ·rw[show manyR c=false by simp only[List.length_map]at h1;simp[manyR];omega]
   repeat(refine .A ?_;conv=>whnf)
   exact⟨rfl,[0,3,5,6,7,8],[3],rfl,rfl⟩
 refine T.mid ⟨[(0,.val false (doms d)),(3,.optr 0 0 0 0),(5,.val true (.bool (bareR c))),(6,.val true (.bool (plainR c))),(7,.val true (.bool (opR c))),(8,.val true (.bool (manyR c))),(9,.val true (.bool (noneR c)))],[(0,some (.box false (cC c)))],1⟩ ?_ ?_
 ·rw[show noneR c=decide (((c.rows.map cL).length:Int)=0)by simp[noneR]]
  repeat(refine .A ?_;conv=>whnf)
  exact⟨rfl,[0,3,5,6,7,8,9],[3],rfl,rfl⟩
 repeat(refine .A ?_;conv=>whnf)
 by_cases hk0:c.kind=0
 ·rw[show rightR d c=(noneR c&&sumR c&&opR c&&decide (c.b=0))by simp[rightR,hk0]]
  refine T.ct2 rfl (by simp[hk0]) ?_
  repeat(refine .A ?_;conv=>whnf)
  generalize noneR c=bn at*
  cases bn
  ·repeat(refine .A ?_;conv=>whnf)
   exact⟨_,.v rfl rfl rfl (fun _=>rfl) .nil⟩
  ·repeat(refine .A ?_;conv=>whnf)
   refine .C hsum ?_
   generalize sumR c=bs at*
   cases bs
   ·repeat(refine .A ?_;conv=>whnf)
    exact⟨_,.v rfl rfl rfl (fun _=>rfl) .nil⟩
   ·repeat(refine .A ?_;conv=>whnf)
    generalize opR c=bo at*
    cases bo
    ·repeat(refine .A ?_;conv=>whnf)
     exact⟨_,.v rfl rfl rfl (fun _=>rfl) .nil⟩
    ·repeat(refine .A ?_;conv=>whnf)
     exact⟨_,.v rfl rfl (by simp<;>omega) (fun _=>rfl) .nil⟩
 refine T.cf2 rfl (by simp[hk0]) ?_
 repeat(refine .A ?_;conv=>whnf)
 by_cases hk1:c.kind=1
 ·rw[show rightR d c=(noneR c&&plainR c&&manyR c)by simp[rightR,hk1]]
  refine T.ct2 rfl (by simp[hk1]) ?_
  repeat(refine .A ?_;conv=>whnf)
  generalize noneR c=bn at*
  cases bn
  ·repeat(refine .A ?_;conv=>whnf)
   exact⟨_,.v rfl rfl rfl (fun _=>rfl) .nil⟩
  ·repeat(refine .A ?_;conv=>whnf)
   generalize plainR c=bp at*
   cases bp
   ·repeat(refine .A ?_;conv=>whnf)
    exact⟨_,.v rfl rfl rfl (fun _=>rfl) .nil⟩
   ·repeat(refine .A ?_;conv=>whnf)
    exact⟨_,.v rfl rfl (by simp<;>omega) (fun _=>rfl) .nil⟩
 refine T.cf2 rfl (by simp[hk1]) ?_
 repeat(refine .A ?_;conv=>whnf)
 by_cases hk2:c.kind=2
 ·rw[show rightR d c=(plainR c&&manyR c&&rowsR c)by simp[rightR,hk2]]
  refine T.ct2 rfl (by simp[hk2]) ?_
  repeat(refine .A ?_;conv=>whnf)
  generalize plainR c=bp at*
  cases bp
  ·repeat(refine .A ?_;conv=>whnf)
   exact⟨_,.v rfl rfl rfl (fun _=>rfl) .nil⟩
  ·repeat(refine .A ?_;conv=>whnf)
   generalize manyR c=bm at*
   cases bm
   ·repeat(refine .A ?_;conv=>whnf)
    exact⟨_,.v rfl rfl rfl (fun _=>rfl) .nil⟩
   ·repeat(refine .A ?_;conv=>whnf)
    refine .C hrows ?_
    repeat(refine .A ?_;conv=>whnf)
    exact⟨_,.v rfl rfl (by simp<;>omega) (fun _=>rfl) .nil⟩
 refine T.cf2 rfl (by simp[hk2]) ?_
 repeat(refine .A ?_;conv=>whnf)
 by_cases hk3:c.kind=3
 ·rw[show rightR d c=(noneR c&&plainR c&&manyR c&&decide (3≤c.vars.length))by simp[rightR,hk3]]
  refine T.ct2 rfl (by simp[hk3]) ?_
  repeat(refine .A ?_;conv=>whnf)
  generalize noneR c=bn at*
  cases bn
  ·repeat(refine .A ?_;conv=>whnf)
   exact⟨_,.v rfl rfl rfl (fun _=>rfl) .nil⟩
  ·repeat(refine .A ?_;conv=>whnf)
   generalize plainR c=bp at*
   cases bp
   ·repeat(refine .A ?_;conv=>whnf)
    exact⟨_,.v rfl rfl rfl (fun _=>rfl) .nil⟩
   ·repeat(refine .A ?_;conv=>whnf)
    generalize manyR c=bm at*
    cases bm
    ·repeat(refine .A ?_;conv=>whnf)
     exact⟨_,.v rfl rfl rfl (fun _=>rfl) .nil⟩
    ·repeat(refine .A ?_;conv=>whnf)
     exact⟨_,.v rfl rfl (by simp<;>omega) (fun _=>rfl) .nil⟩
 refine T.cf2 rfl (by simp[hk3]) ?_
 repeat(refine .A ?_;conv=>whnf)
 by_cases hk4:c.kind=4
 ·rw[show rightR d c=(noneR c&&sumR c&&opR c&&truthR (domAt d c.b)&& !decide (c.b∈c.vars))by simp[rightR,hk4]]
  refine T.ct2 rfl (by simp[hk4]) ?_
  repeat(refine .A ?_;conv=>whnf)
  generalize noneR c=bn at*
  cases bn
  ·repeat(refine .A ?_;conv=>whnf)
   exact⟨_,.v rfl rfl rfl (fun _=>rfl) .nil⟩
  ·repeat(refine .A ?_;conv=>whnf)
   refine .C hsum ?_
   generalize sumR c=bs at*
   cases bs
   ·repeat(refine .A ?_;conv=>whnf)
    exact⟨_,.v rfl rfl rfl (fun _=>rfl) .nil⟩
   ·repeat(refine .A ?_;conv=>whnf)
    generalize opR c=bo at*
    cases bo
    ·repeat(refine .A ?_;conv=>whnf)
     exact⟨_,.v rfl rfl rfl (fun _=>rfl) .nil⟩
    ·repeat(refine .A ?_;conv=>whnf)
     have hb2:=hb hk4
     refine J.i rfl rfl rfl rfl rfl rfl rfl rfl rfl (r:=cD (domAt d c.b)) hb2.1 (by simp[domAt_some hb2.2]) rfl ?_
     repeat(refine .A ?_;conv=>whnf)
     have htr:=truth_spec (domAt d c.b) (hd _ (domAt_mem hb2.2))
     refine .C htr ?_
     generalize truthR (domAt d c.b)=bt at*
     cases bt
     ·repeat(refine .A ?_;conv=>whnf)
      exact⟨_,.v rfl rfl rfl (fun _=>rfl) .nil⟩
     ·repeat(refine .A ?_;conv=>whnf)
      refine .C hbm ?_
      repeat(refine .A ?_;conv=>whnf)
      exact⟨_,.v rfl rfl (by simp<;>omega) (fun _=>rfl) .nil⟩
 refine T.cf2 rfl (by simp[hk4]) ?_
 repeat(refine .A ?_;conv=>whnf)
 by_cases hk5:c.kind=5
 ·rw[show rightR d c=(noneR c&&bareR c&&sumR c&&unitsR d c)by simp[rightR,hk5]]
  refine T.ct2 rfl (by simp[hk5]) ?_
  repeat(refine .A ?_;conv=>whnf)
  generalize noneR c=bn at*
  cases bn
  ·repeat(refine .A ?_;conv=>whnf)
   exact⟨_,.v rfl rfl rfl (fun _=>rfl) .nil⟩
  ·repeat(refine .A ?_;conv=>whnf)
   generalize bareR c=bb at*
   cases bb
   ·repeat(refine .A ?_;conv=>whnf)
    exact⟨_,.v rfl rfl rfl (fun _=>rfl) .nil⟩
   ·repeat(refine .A ?_;conv=>whnf)
    refine .C hsum ?_
    generalize sumR c=bs at*
    cases bs
    ·repeat(refine .A ?_;conv=>whnf)
     exact⟨_,.v rfl rfl rfl (fun _=>rfl) .nil⟩
    ·repeat(refine .A ?_;conv=>whnf)
     refine .C (hunits rfl) ?_
     repeat(refine .A ?_;conv=>whnf)
     exact⟨_,.v rfl rfl (by simp<;>omega) (fun _=>rfl) .nil⟩
 refine T.cf2 rfl (by simp[hk5]) ?_
 repeat(refine .A ?_;conv=>whnf)
 rw[show rightR d c=(noneR c&&plainR c&&decide (2≤c.vars.length)&&decide (c.vars.length % 2=0))by simp[rightR,hk0,hk1,hk2,hk3,hk4,hk5]]
 generalize noneR c=bn at*
 cases bn
 ·repeat(refine .A ?_;conv=>whnf)
  exact⟨_,.v rfl rfl rfl (fun _=>rfl) .nil⟩
 ·repeat(refine .A ?_;conv=>whnf)
  generalize plainR c=bp at*
  cases bp
  ·repeat(refine .A ?_;conv=>whnf)
   exact⟨_,.v rfl rfl rfl (fun _=>rfl) .nil⟩
  ·repeat(refine .A ?_;conv=>whnf)
   refine J.g rfl rfl rfl (fun h1=> ?_) (fun h1=> ?_)
   ·have h1:2≤c.vars.length:=by simp only[List.length_map]at h1;omega
    repeat(refine .A ?_;conv=>whnf)
    refine⟨_,.v rfl rfl ?_ (fun _=>rfl) .nil⟩
    simp only[List.length_map,Bool.true_and,h1,decide_true,PV.bool.injEq,decide_eq_decide]
    rw[Int.tmod_eq_emod_of_nonneg (by omega)]
    omega
   ·have h1: ¬2≤c.vars.length:=by simp only[List.length_map]at h1;omega
    repeat(refine .A ?_;conv=>whnf)
    exact⟨_,.v rfl rfl (by simp[h1]) (fun _=>rfl) .nil⟩
def inD (d:Doms)(v:Int):Bool:= !(decide (v<0)||decide ((d.length:Int)≤v))
def conR (d:Doms)(c:Con):Int:=
 if c.kind<0∨6<c.kind then 44 else
 if(usesR c).all (inD d)=false then 43 else
 if rightR d c=false then 44 else
 if bigR c.coefs c.rhs=true then 45 else 0
theorem inD_iff {d:Doms}{v:Int}:inD d v=true↔0≤v∧v.toNat<d.length:=by
 simp[inD];omega
theorem uses_in {d:Doms}{c:Con}(hc:ConB c)(h:(usesR c).all (inD d)=true):VarsIn d c∧(c.kind=4→0≤c.b∧c.b.toNat<d.length):=by
 have h1: ∀v,v∈(if c.kind=4 then c.vars++[c.b]else c.vars)→0≤v∧v.toNat<d.length:=fun v hv=>inD_iff.1 (List.all_eq_true.1 h v ((sortU_mem v _).2 hv))
 refine⟨⟨by have:=hc.1;omega,fun v hv=>h1 v ?_⟩,fun hk=>h1 c.b ?_⟩
 ·split
  ·exact List.mem_append_left _ hv
  ·exact hv
 ·rw[if_pos hk];simp
theorem con_spec (d:Doms)(c:Con)(hc:ConB c)(hl:d.length*8≤140737488355328)(hd: ∀x∈d,x.length*8≤140737488355328):Spec Tryz.prog 60 false [doms d,.agg (cC c)] [.val (.int .i64 (conR d c))]:=by
 refine Spec.body Tryz.func60 rfl rfl rfl fun w0 Z0=> ?_
 have hu:=(uses_spec c hc).frz
 have hul:(usesR c).length*8≤140737488355328:=by
  have h1:=sortU_length (if c.kind=4 then c.vars++[c.b]else c.vars)
  have h2:(if c.kind=4 then c.vars++[c.b]else c.vars).length≤c.vars.length+1:=by split<;>simp
  have:=hc.1
  unfold usesR;omega
 have hin:=uses_in (d:=d) hc
 have hcon:conR d c=if c.kind<0∨6<c.kind then 44 else if(usesR c).all (inD d)=false then 43 else if rightR d c=false then 44 else if bigR c.coefs c.rhs=true then 45 else 0:=rfl
 generalize usesR c=u at*
 repeat(refine .A ?_;conv=>whnf)
 refine J.g rfl rfl rfl (fun h1=> ?_) (fun h1=> ?_)
 ·rw[hcon,if_pos (.inl h1)]
  repeat(refine .A ?_;conv=>whnf)
  refine T.ct rfl ?_
  repeat(refine .A ?_;conv=>whnf)
  exact⟨_,.v rfl rfl rfl (fun _=>rfl) .nil⟩
 ·repeat(refine .A ?_;conv=>whnf)
  refine T.cd rfl (fun h2=> ?_) (fun h2=> ?_)
  ·rw[hcon,if_pos (.inr h2)]
   repeat(refine .A ?_;conv=>whnf)
   exact⟨_,.v rfl rfl rfl (fun _=>rfl) .nil⟩
  ·rw[if_neg (fun h=>h.elim h1 h2)]at hcon
   repeat(refine .A ?_;conv=>whnf)
   refine .C hu ?_
   repeat(refine .A ?_;conv=>whnf)
   refine T.K (T.listI u (fun pre=>pre.all (inD d)=true) (fun n pre post=>⟨[(0,.val false (doms d)),(3,.optr 0 0 0 0),(5,.val true (ints u)),(6,.val true (.int .i64 n))],[(0,some (.box false (cC c)))],1⟩) (fun _ _ h=>h) rfl ?_ ?_)
   ·rintro n pre x post h hn hi ih
    have hlt:=at_lt h hn
    have hra:=row_at (enc:=cI) h hn
    have bad:(decide (x<0)||decide ((d.length:Int)≤x))=true→conR d c=43:=fun e=>by
     rw[hcon,if_pos]
     rw[h,List.all_append,List.all_cons,inD,e]
     simp
    repeat(refine .A ?_;conv=>whnf)
    refine T.ct2 rfl (lt_at h hn) ?_
    repeat(refine .A ?_;conv=>whnf)
    refine .I (r:=cI x) hra ?_
    repeat(refine .A ?_;conv=>whnf)
    refine J.g rfl rfl rfl (fun h3=> ?_) (fun h3=> ?_)
    ·rw[bad (by simp[show x<0 from h3])]
     repeat(refine .A ?_;conv=>whnf)
     refine T.ct rfl ?_
     repeat(refine .A ?_;conv=>whnf)
     exact⟨_,.v rfl rfl rfl (fun _=>rfl) .nil⟩
    ·repeat(refine .A ?_;conv=>whnf)
     refine .I (r:=cI x) hra ?_
     repeat(refine .A ?_;conv=>whnf)
     refine T.cd rfl (fun h4=> ?_) (fun h4=> ?_)
     ·have h4:(d.length:Int)≤x:=by simp only[List.length_map]at h4;omega
      rw[bad (by simp[h4])]
      repeat(refine .A ?_;conv=>whnf)
      exact⟨_,.v rfl rfl rfl (fun _=>rfl) .nil⟩
     ·have h4: ¬(d.length:Int)≤x:=by simp only[List.length_map]at h4;omega
      repeat(refine .A ?_;conv=>whnf)
      rw[wrap1 hlt (by omega)]
      refine T.K (ih ?_)
      rw[List.all_append,hi]
      simp[inD,show¬x<0 from h3,h4]
   ·intro hi
    obtain⟨hv,hb⟩:=hin hi
    rw[if_neg (by simp[hi])]at hcon
    repeat(refine .A ?_;conv=>whnf)
    refine T.cf2 rfl lt_end ?_
    repeat(refine .A ?_;conv=>whnf)
    refine .C (right_spec d c hc hv hb hd) ?_
    repeat(refine .A ?_;conv=>whnf)
    refine T.cond rfl (fun h3=> ?_) (fun h3=> ?_)
    ·rw[hcon,if_pos (by simpa using h3)]
     repeat(refine .A ?_;conv=>whnf)
     exact⟨_,.v rfl rfl rfl (fun _=>rfl) .nil⟩
    ·rw[if_neg (by simpa using h3)]at hcon
     repeat(refine .A ?_;conv=>whnf)
     refine .C (big_spec c.coefs c.rhs hc.2.1) ?_
     repeat(refine .A ?_;conv=>whnf)
     refine T.cond rfl (fun h4=> ?_) (fun h4=> ?_)
     ·rw[hcon,if_pos h4]
      repeat(refine .A ?_;conv=>whnf)
      exact⟨_,.v rfl rfl rfl (fun _=>rfl) .nil⟩
     ·rw[hcon,if_neg (by simp[h4])]
      repeat(refine .A ?_;conv=>whnf)
      exact⟨_,.v rfl rfl rfl (fun _=>rfl) .nil⟩
set_option maxRecDepth 8000
abbrev Seen:=List (Int×Bool)
abbrev By:=List (Int×Int)
def tryL (rec:Seen→By→Int→Bool×Seen×By)(i:Int):List Int→Seen→By→Bool×Seen×By
 | [],s,b=>(false,s,b)
 |v::vs,s,b=>if(lkA s v).getD false=true then tryL rec i vs s b else
  match lkA b v with
  |none=>(true,upA s v true,upA b v i)
  |some k=>match rec (upA s v true) b k with
   |(true,s2,b2)=>(true,s2,upA b2 v i)
   |(false,s2,b2)=>tryL rec i vs s2 b2
def tryF (l:List (List Int)):Nat→Int→Seen→By→Bool×Seen×By
 |0,_,s,b=>(false,s,b)
 |f+1,i,s,b=>tryL (fun s b k=>tryF l f k s b) i (l.getD i.toNat []) s b
def unseen (l:List (List Int))(s:Seen):Nat:=(l.flatten.filter fun v=> !(lkA s v).getD false).length
def mpS (s:Seen):Own:= .mp true none (s.map fun p=>(Value.int .i64 p.1,PV.bool p.2))
def mpB (b:By):Own:= .mp true none (b.map fun p=>(Value.int .i64 p.1,PV.int .i64 p.2))
def ByIn (l:List (List Int))(b:By):Prop:= ∀p∈b,0≤p.2∧p.2.toNat<l.length
theorem fi_cons {α β:Type}[DecidableEq α](p:α×β)(l:List (α×β))(a:α):fiA (p::l) a=if p.1=a then some 0 else(fiA l a).map (· +1):=by
 unfold fiA
 rw[List.findIdx?_cons]
 by_cases h:p.1=a
 ·simp[h]
 ·simp[h]
theorem lk_nil {α β:Type}[DecidableEq α](a:α):lkA ([]:List (α×β)) a=none:=rfl
theorem lkA_cons {α β:Type}[DecidableEq α](p:α×β)(l:List (α×β))(a:α):lkA (p::l) a=if p.1=a then some p.2 else lkA l a:=by
 unfold lkA
 rw[fi_cons]
 by_cases h:p.1=a
 ·rw[if_pos h,if_pos h];rfl
 ·rw[if_neg h,if_neg h]
  cases fiA l a<;>simp
theorem up_cons {α β:Type}[DecidableEq α](p:α×β)(l:List (α×β))(a:α)(b:β):upA (p::l) a b=if p.1=a then(a,b)::l else p::upA l a b:=by
 unfold upA
 rw[fi_cons]
 by_cases h:p.1=a
 ·rw[if_pos h,if_pos h];rfl
 ·rw[if_neg h,if_neg h]
  cases fiA l a<;>simp
theorem lk_up {α β:Type}[DecidableEq α](a c:α)(b:β): ∀l:List (α×β),lkA (upA l a b) c=if a=c then some b else lkA l c
 | []=>by
  show lkA [(a,b)] c=_
  exact lkA_cons (a,b) [] c
 |p::l=>by
  rw[up_cons,lkA_cons]
  by_cases h:p.1=a
  ·rw[if_pos h,lkA_cons]
   by_cases e:a=c
   ·rw[if_pos e,if_pos e]
   ·rw[if_neg e,if_neg e,if_neg (fun h2=>e (h.symm.trans h2))]
  ·rw[if_neg h,lkA_cons,lk_up a c b l]
   by_cases e:p.1=c
   ·rw[if_pos e,if_pos e,if_neg (fun h2=>h (e.trans h2.symm))]
   ·rw[if_neg e,if_neg e]
theorem mem_upA {α β:Type}[DecidableEq α]{a:α}{b:β}{p:α×β}: ∀{l:List (α×β)},p∈upA l a b→p∈l∨p=(a,b)
 | [],h=> .inr (by simpa[upA,fiA]using h)
 |q::l,h=>by
  rw[up_cons]at h
  split at h
  ·rcases List.mem_cons.1 h with h|h
   ·exact .inr h
   ·exact .inl (.tail _ h)
  ·rcases List.mem_cons.1 h with h|h
   ·exact .inl (h▸.head _)
   ·rcases mem_upA h with h|h
    ·exact .inl (.tail _ h)
    ·exact .inr h
theorem ByIn.up {l:List (List Int)}{b:By}(h:ByIn l b){v i:Int}(h0:0≤i)(hi:i.toNat<l.length):ByIn l (upA b v i):=fun p hp=>by
 rcases mem_upA hp with hp|rfl
 ·exact h p hp
 ·exact⟨h0,hi⟩
theorem lk_mem {α β:Type}[DecidableEq α]{a:α}{b:β}: ∀{l:List (α×β)},lkA l a=some b→(a,b)∈l
 | [],h=>by cases h
 |p::l,h=>by
  rw[lkA_cons]at h
  split at h
  ·rename_i e
   obtain rfl:=Option.some.inj h
   subst e;exact .head _
  ·exact .tail _ (lk_mem h)
def sees (s:Seen)(v:Int):Prop:=(lkA s v).getD false=true
structure TryOk (l:List (List Int))(s:Seen)(R:Bool×Seen×By):Prop where
 seen: ∀v,sees s v→sees R.2.1 v
 byIn:ByIn l R.2.2
theorem sees_up {s:Seen}{v w:Int}:sees (upA s v true) w↔v=w∨sees s w:=by
 unfold sees
 rw[lk_up]
 by_cases e:v=w
 ·simp[e]
 ·simp[e]
theorem tryL_ok {l:List (List Int)}{rec:Seen→By→Int→Bool×Seen×By}{i:Int}(h0:0≤i)(hi:i.toNat<l.length)(hr: ∀s b k,ByIn l b→0≤k→k.toNat<l.length→TryOk l s (rec s b k)): ∀(vs:List Int) (s:Seen) (b:By),ByIn l b→TryOk l s (tryL rec i vs s b)
 | [],s,b,hb=>⟨fun _ h=>h,hb⟩
 |v::vs,s,b,hb=>by
  rw[tryL]
  split
  ·exact tryL_ok h0 hi hr vs s b hb
  ·split
   ·exact⟨fun w hw=>sees_up.2 (.inr hw),hb.up h0 hi⟩
   ·rename_i k hk
    have hk2:=hb _ (lk_mem hk)
    have h1:=hr (upA s v true) b k hb hk2.1 hk2.2
    split
    ·rename_i s2 b2 e
     rw[e]at h1
     exact⟨fun w hw=>h1.seen w (sees_up.2 (.inr hw)),h1.byIn.up h0 hi⟩
    ·rename_i s2 b2 e
     rw[e]at h1
     have h2:=tryL_ok h0 hi hr vs s2 b2 h1.byIn
     exact⟨fun w hw=>h2.seen w (h1.seen w (sees_up.2 (.inr hw))),h2.byIn⟩
theorem tryF_ok (l:List (List Int)): ∀(f:Nat) (i:Int) (s:Seen) (b:By),0≤i→i.toNat<l.length→ByIn l b→TryOk l s (tryF l f i s b)
 |0,i,s,b,_,_,hb=>⟨fun _ h=>h,hb⟩
 |f+1,i,s,b,h0,hi,hb=>by
  rw[tryF]
  exact tryL_ok h0 hi (fun s b k hb h1 h2=>tryF_ok l f k s b h1 h2 hb) _ _ _ hb
theorem filter_len_le {α:Type}{p q:α→Bool}: ∀(l:List α),(∀x,q x=true→p x=true)→(l.filter q).length≤(l.filter p).length
 | [],_=>Nat.le_refl _
 |x::l,h=>by
  have:=filter_len_le l h
  by_cases hq:q x=true
  ·rw[List.filter_cons_of_pos hq,List.filter_cons_of_pos (h x hq)];simpa using this
  ·rw[List.filter_cons_of_neg hq]
   by_cases hp:p x=true
   ·rw[List.filter_cons_of_pos hp];simp;omega
   ·rw[List.filter_cons_of_neg hp];exact this
theorem unseen_le {l:List (List Int)}{s s2:Seen}(h: ∀v,sees s v→sees s2 v):unseen l s2≤unseen l s:=by
 refine filter_len_le _ fun v hv=> ?_
 by_cases hs:sees s v
 ·have:=h v hs
  unfold sees at this
  simp[this]at hv
 ·unfold sees at hs
  simpa using hs
theorem unseen_lt {l:List (List Int)}{s:Seen}{v:Int}(hv:v∈l.flatten)(hs: ¬sees s v):unseen l (upA s v true)<unseen l s:=by
 refine filter_lt _ v (fun w hw=> ?_) hv ?_ ?_
 ·by_cases h:sees s w
  ·have:sees (upA s v true) w:=sees_up.2 (.inr h)
   unfold sees at this
   simp[this]at hw
  ·unfold sees at h;simpa using h
 ·unfold sees at hs;simpa using hs
 ·have:sees (upA s v true) v:=sees_up.2 (.inl rfl)
  unfold sees at this
  simp[this]
abbrev fnTry (p2 p5 p6:Value):PV:= .fn (.func 144) [] [.raw p2,.raw p5,.raw p6]
theorem zeroB (w:World):(zeroValue 4).run Tryz.prog w= .ok (.bool false) w:=by kernel_rfl
theorem zeroI (w:World):(zeroValue 3).run Tryz.prog w= .ok (.int .i64 0) w:=by kernel_rfl
theorem try_spec (l:List (List Int))(hl:l.length*24≤140737488355328)(hx: ∀x∈l,x.length*8≤140737488355328): ∀(f:Nat) (i:Int) (s:Seen) (b:By) (p2 p5 p6 pm pb ps:Value),unseen l s<f→0≤i→i.toNat<l.length→ByIn l b→
  SpecO Tryz.prog 144 false [p2,p5,p6,pm,pb,ps] [.box true [.raw pm],.box true [.raw ps],.box true [fnTry p2 p5 p6],.box true [lists l,.raw pb],mpB b,mpS s] [.int .i64 i,.raw p2,.raw p5,.raw p6]
   [.box true [.raw pm],.box true [.raw ps],.box true [fnTry p2 p5 p6],.box true [lists l,.raw pb],mpB (tryF l f i s b).2.2,mpS (tryF l f i s b).2.1] (fun _=>[]) (fun _=>[.bool (tryF l f i s b).1]):=by
 intro f
 induction f with
 |zero=>intro i s b _ _ _ _ _ _ h;omega
 |succ f ihf=>
  intro i s0 b0 p2 p5 p6 pm pb ps hf h0 hi hb0
  have hrow:(l.map cL)[i.toNat]? =some (cL (l.getD i.toNat [])):=by simp[hi]
  have hgl:(l.getD i.toNat []).length*8≤140737488355328:=by
   rw[List.getD_eq_getElem?_getD,List.getElem?_eq_getElem hi];exact hx _ (List.getElem_mem hi)
  have hgm: ∀v∈l.getD i.toNat [],v∈l.flatten:=by
   rw[List.getD_eq_getElem?_getD,List.getElem?_eq_getElem hi]
   exact fun v hv=>List.mem_flatten.2 ⟨_,List.getElem_mem hi,hv⟩
  rw[tryF]
  generalize l.getD i.toNat []=vs at*
  generalize hR:tryL (fun s b k=>tryF l f k s b) i vs s0 b0=R
  refine SpecO.body [1001,1002,1003,1004,1005,1006] [] Tryz.func144 rfl rfl rfl rfl fun w0 Z1=> ?_
  refine T.sub (Rel.derawp (s:=1) (g:=1001) rfl rfl rfl) ?_
  refine T.sub (Rel.derawp (s:=2) (g:=1002) rfl rfl rfl) ?_
  refine T.sub (Rel.derawp (s:=3) (g:=1003) rfl rfl rfl) ?_
  refine T.sub (Rel.fine (s:=0) rfl rfl) ?_
  repeat(refine .A ?_;conv=>whnf)
  refine J.sub (Rel.derawp (s:=10) (g:=1004) rfl rfl rfl) ?_
  repeat(refine .A ?_;conv=>whnf)
  refine J.i rfl rfl rfl rfl rfl rfl rfl rfl rfl (r:=cL vs) h0 hrow rfl ?_
  repeat(refine .A ?_;conv=>whnf)
  refine T.K (T.ind (fun x:Nat×Seen×By=>⟨[(0,.val true (.int .i64 i)),(1,.optr 0 0 0 0),(2,.optr 1 0 0 0),(3,.optr 2 0 0 0),(16,.val true (ints vs)),(17,.val true (.int .i64 (vs.map cI).length)),(18,.val true (.int .i64 x.1)),(1001,.eq p2 0),(1002,.eq p5 1),(1003,.eq p6 2),(1004,.eq pm 3),(1005,.eq pb 4),(1006,.eq ps 5)],
    [(0,some (.box true [.raw pm])),(1,some (.box true [.raw ps])),(2,some (.box true [fnTry p2 p5 p6])),(3,some (.box true [lists l,.raw pb])),(4,some (mpB x.2.2)),(5,some (mpS x.2.1))],6⟩)
   (fun x=>x.1≤vs.length∧tryL (fun s b k=>tryF l f k s b) i (vs.drop x.1) x.2.1 x.2.2=R∧unseen l x.2.1<f+1∧ByIn l x.2.2) (fun x=>vs.length-x.1) (0,s0,b0) ⟨by simp,hR,hf,hb0⟩ (fun _ _ h=>h) ?_)
  rintro⟨k,s,b⟩ ⟨hk,hR,hu,hb⟩ ih
  simp only at hk hR hu hb
  dsimp only
  repeat(refine .A ?_;conv=>whnf)
  refine T.cd rfl (fun h1=> ?_) (fun h1=> ?_)
  rotate_left
  ·have h1:k=vs.length:=by simp at h1;omega
   subst h1
   rw[List.drop_length,tryL]at hR
   subst hR
   repeat(refine .A ?_;conv=>whnf)
   exact⟨[0,1,2,3,4,5],[],[],⟨rfl,rfl,rfl,rfl,rfl,rfl,rfl,rfl,rfl,rfl,rfl,rfl,rfl,rfl,rfl,rfl,rfl,rfl,trivial⟩,trivial,rfl,.v rfl rfl rfl (fun _=>rfl) .nil⟩
  have h1:k<vs.length:=by simpa using h1
  rw[List.drop_eq_getElem_cons h1,tryL]at hR
  have hvm:=hgm _ (List.getElem_mem h1)
  generalize hv:vs[k]=v at*
  have hvr:(vs.map cI)[((k:Nat):Int).toNat]? =some (cI v):=by rw[←hv];exact row_i h1
  have next: ∀s2 b2,tryL (fun s b k=>tryF l f k s b) i (vs.drop (k+1)) s2 b2=R→unseen l s2<f+1→ByIn l b2→_:=fun s2 b2 e1 e2 e3=>ih (k+1,s2,b2) ⟨by omega,e1,e2,e3⟩ (by show _-_<_-_;omega)
  dsimp only at next
  have hw1:IntKind.i64.wrap ((k:Int)+1)=((k+1:Nat):Int):=wrap1 (l:=vs.length) h1 hgl
  repeat(refine .A ?_;conv=>whnf)
  refine .I (r:=cI v) hvr ?_
  repeat(refine .A ?_;conv=>whnf)
  refine J.sub (Rel.deraw (s:=22) (g:=1006) rfl rfl) ?_
  repeat(refine .A ?_;conv=>whnf)
  refine J.ml v (.bool false) rfl rfl rfl rfl rfl rfl rfl rfl rfl zeroB (fun _ _=> .bool _) (keyI Tryz.underlying3) (fun _ _ _ h=>rep_int h) ?_
  have hmb:((lkA s v).map PV.bool).getD (.bool false)= .bool ((lkA s v).getD false):=by cases lkA s v<;>rfl
  rw[hmb]
  by_cases hs:(lkA s v).getD false=true
  ·rw[if_pos hs]at hR
   rw[hs]
   repeat(refine .A ?_;conv=>whnf)
   refine T.ct rfl ?_
   repeat(refine .A ?_;conv=>whnf)
   rw[hw1]
   exact T.K (next s b hR hu hb)
  rw[if_neg hs]at hR
  rw[eq_false_of_ne_true hs]
  have hlt:=unseen_lt hvm hs
  repeat(refine .A ?_;conv=>whnf)
  refine T.cf rfl ?_
  repeat(refine .A ?_;conv=>whnf)
  refine J.sub (Rel.deraw (s:=25) (g:=1006) rfl rfl) ?_
  repeat(refine .A ?_;conv=>whnf)
  refine J.mu v true rfl rfl rfl rfl rfl rfl rfl rfl rfl rfl rfl (keyI Tryz.underlying3) (fun _ _ _ h=>rep_int h) rfl ?_
  repeat(refine .A ?_;conv=>whnf)
  refine J.sub (Rel.derawp (s:=28) (g:=1004) rfl rfl rfl) ?_
  repeat(refine .A ?_;conv=>whnf)
  refine J.sub (Rel.deraw (s:=31) (g:=1005) rfl rfl) ?_
  repeat(refine .A ?_;conv=>whnf)
  refine J.ml v (.int .i64 0) rfl rfl rfl rfl rfl rfl rfl rfl rfl zeroI (fun _ _=> .int _ _) (keyI Tryz.underlying3) (fun _ _ _ h=>rep_int h) ?_
  cases hk2:lkA b v with
  |none=>
   rw[hk2]at hR
   simp only at hR
   subst hR
   repeat(refine .A ?_;conv=>whnf)
   refine T.ct rfl ?_
   repeat(refine .A ?_;conv=>whnf)
   refine J.sub (Rel.derawp (s:=43) (g:=1004) rfl rfl rfl) ?_
   repeat(refine .A ?_;conv=>whnf)
   refine J.sub (Rel.deraw (s:=46) (g:=1005) rfl rfl) ?_
   repeat(refine .A ?_;conv=>whnf)
   refine J.mu v i rfl rfl rfl rfl rfl rfl rfl rfl rfl rfl rfl (keyI Tryz.underlying3) (fun _ _ _ h=>rep_int h) rfl ?_
   repeat(refine .A ?_;conv=>whnf)
   exact⟨[0,1,2,3,4,5],[],[],⟨rfl,rfl,rfl,rfl,rfl,rfl,rfl,rfl,rfl,rfl,rfl,rfl,rfl,rfl,rfl,rfl,rfl,rfl,trivial⟩,trivial,rfl,.v rfl rfl rfl (fun _=>rfl) .nil⟩
  |some q=>
   rw[hk2]at hR
   simp only at hR
   have hq:=hb _ (lk_mem hk2)
   have hrec:=ihf q (upA s v true) b p2 p5 p6 pm pb ps (by omega) hq.1 hq.2 hb
   have hok:=tryF_ok l f q (upA s v true) b hq.1 hq.2 hb
   repeat(refine .A ?_;conv=>whnf)
   refine J.co (qs:=[0,1,2,3,4,5]) (cs2:=[.box true [.raw pm],.box true [.raw ps],.box true [fnTry p2 p5 p6],.box true [lists l,.raw pb],mpB b,mpS (upA s v true)]) true [1001,1002,1003,1004,1005,1006] [] rfl rfl rfl rfl rfl rfl hrec ⟨rfl,rfl,rfl,rfl,rfl,rfl,rfl,rfl,rfl,rfl,rfl,rfl,trivial⟩ rfl rfl rfl rfl rfl rfl rfl fun ns hns=> ?_
   obtain rfl:ns=[]:=List.eq_nil_of_length_eq_zero hns
   generalize hT:tryF l f q (upA s v true) b=TR at*
   obtain⟨r,s2,b2⟩:=TR
   have hsu:unseen l s2<f+1:=by
    have:=unseen_le (l:=l) hok.seen
    dsimp only at this
    omega
   have hby:ByIn l b2:=hok.byIn
   dsimp only
   repeat(refine .A ?_;conv=>whnf)
   cases r with
   |false=>
    repeat(refine .A ?_;conv=>whnf)
    refine T.cf rfl ?_
    repeat(refine .A ?_;conv=>whnf)
    rw[hw1]
    exact T.K (next s2 b2 hR hsu hby)
   |true=>
    simp only at hR
    subst hR
    refine T.ct rfl ?_
    repeat(refine .A ?_;conv=>whnf)
    refine J.sub (Rel.derawp (s:=43) (g:=1004) rfl rfl rfl) ?_
    repeat(refine .A ?_;conv=>whnf)
    refine J.sub (Rel.deraw (s:=46) (g:=1005) rfl rfl) ?_
    repeat(refine .A ?_;conv=>whnf)
    refine J.mu v i rfl rfl rfl rfl rfl rfl rfl rfl rfl rfl rfl (keyI Tryz.underlying3) (fun _ _ _ h=>rep_int h) rfl ?_
    repeat(refine .A ?_;conv=>whnf)
    exact⟨[0,1,2,3,4,5],[],[],⟨rfl,rfl,rfl,rfl,rfl,rfl,rfl,rfl,rfl,rfl,rfl,rfl,rfl,rfl,rfl,rfl,rfl,rfl,trivial⟩,trivial,rfl,.v rfl rfl rfl (fun _=>rfl) .nil⟩
abbrev giveP (l:List (List Int))(i:Int)(b:By):Bool×Seen×By:=tryF l (l.flatten.length+1) i [] b
theorem unseen_nil (l:List (List Int)):unseen l []<l.flatten.length+1:=Nat.lt_succ_of_le (List.length_filter_le _ _)
theorem give_spec (l:List (List Int))(hl:l.length*24≤140737488355328)(hx: ∀x∈l,x.length*8≤140737488355328)(i:Int)(b:By)(pm pb:Value)(h0:0≤i)(hi:i.toNat<l.length)(hb:ByIn l b):
  SpecO Tryz.prog 111 false [pm,pb] [.box true [lists l,.raw pb],mpB b] [.raw pm,.int .i64 i] [.box true [lists l,.raw pb],mpB (giveP l i b).2.2] (fun _=>[]) (fun _=>[.bool (giveP l i b).1]):=by
 refine SpecO.body [1001,1002] [] Tryz.func111 rfl rfl rfl rfl fun w0 Z1=> ?_
 refine T.sub (Rel.fine (s:=0) rfl rfl) ?_
 refine T.sub (Rel.fine (s:=1) rfl rfl) ?_
 refine T.canon (keep:=[0,1,1001,1002]) (os:=[1001,1002]) rfl ?_
 repeat(refine .A ?_;conv=>whnf)
 refine J.mm rfl rfl rfl rfl ?_
 refine J.al rfl rfl rfl rfl rfl rfl rfl ?_
 refine J.name 1003 (s:=7) rfl rfl rfl fun ps=> ?_
 refine J.sub (Rel.raw (s:=7) (g:=1003) rfl (.inl rfl) rfl rfl rfl) ?_
 refine J.w rfl rfl rfl rfl rfl rfl rfl rfl rfl rfl ?_
 repeat(refine .A ?_;conv=>whnf)
 refine J.al rfl rfl rfl rfl rfl rfl rfl ?_
 repeat(refine .A ?_;conv=>whnf)
 refine J.name 1004 (s:=2) rfl rfl rfl fun p2=> ?_
 refine J.name 1005 (s:=5) rfl rfl rfl fun p5=> ?_
 refine J.name 1006 (s:=6) rfl rfl rfl fun p6=> ?_
 refine J.sub (Rel.raw (s:=2) (g:=1004) rfl (.inr rfl) rfl rfl rfl) ?_
 refine J.sub (Rel.raw (s:=5) (g:=1005) rfl (.inr rfl) rfl rfl rfl) ?_
 refine J.sub (Rel.raw (s:=6) (g:=1006) rfl (.inr rfl) rfl rfl rfl) ?_
 repeat(refine .A ?_;conv=>whnf)
 refine J.sub (Rel.derawp (s:=6) (g:=1006) rfl rfl rfl) ?_
 refine J.sub (Rel.fineF (s:=8) rfl rfl rfl) ?_
 refine J.w rfl rfl rfl rfl rfl rfl rfl rfl rfl rfl ?_
 repeat(refine .A ?_;conv=>whnf)
 refine J.co (qs:=[2,4,5,0,1,3]) (cs2:=[.box true [.raw pm],.box true [.raw ps],.box true [fnTry p2 p5 p6],.box true [lists l,.raw pb],mpB b,mpS []]) true [1004,1005,1006,1001,1002,1003] [] rfl rfl rfl rfl rfl rfl (try_spec l hl hx (l.flatten.length+1) i [] b p2 p5 p6 pm pb ps (unseen_nil l) h0 hi hb) ⟨rfl,rfl,rfl,rfl,rfl,rfl,rfl,rfl,rfl,rfl,rfl,rfl,trivial⟩ rfl rfl rfl rfl rfl rfl rfl fun ns hns=> ?_
 obtain rfl:ns=[]:=List.eq_nil_of_length_eq_zero hns
 repeat(refine .A ?_;conv=>whnf)
 exact⟨[0,1],[],[],⟨rfl,rfl,rfl,rfl,rfl,rfl,trivial⟩,trivial,rfl,.v rfl rfl rfl (fun _=>rfl) .nil⟩
def giveAll (l:List (List Int)):Nat→Nat→By→Option By
 |0,_,b=>some b
 |n+1,i,b=>match giveP l (i:Nat) b with
  |(true,_,b2)=>giveAll l n (i+1) b2
  |(false,_,_)=>none
def matchP (l:List (List Int)):Option By:=giveAll l l.length 0 []
theorem matched_spec (l:List (List Int))(hl:l.length*24≤140737488355328)(hx: ∀x∈l,x.length*8≤140737488355328):
  SpecO Tryz.prog 63 true [] [] [lists l] [] (fun ns=>match matchP l with|some b=>[.box true [lists l,.raw (ns.getD 1 undef)],mpB b]|none=>[]) (fun ns=>match matchP l with|some b=>[.raw (ns.getD 0 undef),.bool true]|none=>[.nilp,.bool false]):=by
 generalize hR:matchP l=R
 refine SpecO.body [] (match R with|some _=>[1003,1001]|none=>[]) Tryz.func63 rfl rfl rfl rfl fun w0 Z1=> ?_
 refine T.canon (keep:=[0]) (os:=[]) rfl ?_
 repeat(refine .A ?_;conv=>whnf)
 refine J.mm rfl rfl rfl rfl ?_
 refine J.name 1001 (s:=7) rfl rfl rfl fun pb=> ?_
 refine J.sub (Rel.raw (s:=7) (g:=1001) rfl (.inl rfl) rfl rfl rfl) ?_
 repeat(refine .A ?_;conv=>whnf)
 refine T.name 1003 (s:=4) rfl rfl rfl fun pm=> ?_
 refine T.sub (Rel.raw (s:=4) (g:=1003) rfl (.inr rfl) rfl rfl rfl) ?_
 have hlen:(l.map cL).length=l.length:=List.length_map ..
 rw[hlen]
 refine T.K (T.ind (fun x:Nat×By=>⟨[(4,.val true (.raw pm)),(11,.val true (.int .i64 l.length)),(12,.val true (.int .i64 x.1)),(1001,.eq pb 0),(1003,.eq pm 1)],
    [(0,some (mpB x.2)),(1,some (.box true [lists l,.raw pb]))],2⟩)
   (fun x=>x.1≤l.length∧giveAll l (l.length-x.1) x.1 x.2=R∧ByIn l x.2) (fun x=>l.length-x.1) (0,[]) ⟨by simp,hR,fun p hp=>by cases hp⟩ (fun _ _ h=>h) ?_)
 rintro⟨k,b⟩ ⟨hk,hR,hb⟩ ih
 simp only at hk hR hb
 dsimp only
 repeat(refine .A ?_;conv=>whnf)
 refine T.cd rfl (fun h1=> ?_) (fun h1=> ?_)
 rotate_left
 ·have h1:k=l.length:=by simp at h1;omega
  subst h1
  rw[Nat.sub_self,giveAll]at hR
  subst hR
  repeat(refine .A ?_;conv=>whnf)
  exact⟨[],[1,0],[pm,pb],trivial,⟨rfl,rfl,rfl,rfl,rfl,rfl,trivial⟩,rfl,.v rfl rfl rfl (fun _=>rfl) (.v rfl rfl rfl (fun _=>rfl) .nil)⟩
 have h1:k<l.length:=by simpa using h1
 rw[show l.length-k=(l.length-(k+1))+1 by omega,giveAll]at hR
 have hok:=tryF_ok l (l.flatten.length+1) (k:Nat) [] b (by omega) (by omega) hb
 have hsp:=give_spec l hl hx (k:Nat) b pm pb (by omega) (by omega) hb
 have hw1:IntKind.i64.wrap ((k:Int)+1)=((k+1:Nat):Int):=by
  have:=wrap1 (l:=l.length) h1 (by omega)
  exact this
 repeat(refine .A ?_;conv=>whnf)
 refine J.co (qs:=[1,0]) (cs2:=[.box true [lists l,.raw pb],mpB b]) true [1003,1001] [] rfl rfl rfl rfl rfl rfl hsp ⟨rfl,rfl,rfl,rfl,trivial⟩ rfl rfl rfl rfl rfl rfl rfl fun ns hns=> ?_
 obtain rfl:ns=[]:=List.eq_nil_of_length_eq_zero hns
 generalize hT:giveP l (k:Nat) b=TR at*
 rw[show tryF l (l.flatten.length+1) (k:Nat) [] b=TR from hT]at hok
 obtain⟨r,s2,b2⟩:=TR
 dsimp only
 repeat(refine .A ?_;conv=>whnf)
 cases r with
 |false=>
  simp only at hR
  subst hR
  refine T.ct rfl ?_
  repeat(refine .A ?_;conv=>whnf)
  exact⟨[],[],[],trivial,trivial,rfl,.v rfl rfl rfl (fun _=>rfl) (.v rfl rfl rfl (fun _=>rfl) .nil)⟩
 |true=>
  simp only at hR
  refine T.cf rfl ?_
  repeat(refine .A ?_;conv=>whnf)
  rw[hw1]
  exact T.K (ih (k+1,b2) ⟨by omega,hR,hok.byIn⟩ (by show _-_<_-_;omega))
def cnt (b:By)(j:Int):Nat:=b.countP fun p=>decide (p.2=j)
theorem cnt_up (b:By)(v i j:Int):cnt (upA b v i) j+(if lkA b v=some j then 1 else 0)=cnt b j+if i=j then 1 else 0:=by
 induction b with
 |nil=>
  show List.countP _ [(v,i)]+0=0+_
  rw[List.countP_cons]
  simp
 |cons p b ih=>
  unfold cnt at*
  rw[up_cons,lkA_cons]
  by_cases h:p.1=v
  ·rw[if_pos h,if_pos h,List.countP_cons,List.countP_cons]
   simp only[decide_eq_true_eq,Option.some.injEq]
   omega
  ·rw[if_neg h,if_neg h,List.countP_cons,List.countP_cons]
   omega
structure TT (i:Int)(s:Seen)(b:By)(R:Bool×Seen×By):Prop where
 mono: ∀v,sees s v→sees R.2.1 v
 no:R.1=false→R.2.2=b
 more:R.1=true→∀j,cnt R.2.2 j=cnt b j+if i=j then 1 else 0
 keep:R.1=true→∀v,sees s v→lkA R.2.2 v=lkA b v
theorem tryL_tt {rec:Seen→By→Int→Bool×Seen×By}{i:Int}(hr: ∀s b k,TT k s b (rec s b k)): ∀(vs:List Int) (s:Seen) (b:By),TT i s b (tryL rec i vs s b)
 | [],s,b=>⟨fun _ h=>h,fun _=>rfl,fun h=>(by cases h),fun h=>(by cases h)⟩
 |v::vs,s,b=>by
  rw[tryL]
  split
  ·exact tryL_tt hr vs s b
  ·rename_i hs
   have hne: ∀w,sees s w→¬v=w:=fun w hw e=>hs (e▸hw)
   split
   ·rename_i hk
    refine⟨fun w hw=>sees_up.2 (.inr hw),fun h=>(by cases h),fun _ j=> ?_,fun _ w hw=> ?_⟩
    ·have:=cnt_up b v i j
     rw[hk]at this
     simpa using this
    ·show lkA (upA b v i) w=_
     rw[lk_up,if_neg (hne w hw)]
   ·rename_i k hk
    have h1:=hr (upA s v true) b k
    have hv:sees (upA s v true) v:=sees_up.2 (.inl rfl)
    split
    ·rename_i s2 b2 e
     rw[e]at h1
     refine⟨fun w hw=>h1.mono w (sees_up.2 (.inr hw)),fun h=>(by cases h),fun _ j=> ?_,fun _ w hw=> ?_⟩
     ·have e1:=cnt_up b2 v i j
      have e2:=h1.more rfl j
      have e3:=h1.keep rfl v hv
      simp only at e2 e3
      rw[e3,hk]at e1
      simp only[Option.some.injEq]at e1
      show cnt (upA b2 v i) j=_
      omega
     ·show lkA (upA b2 v i) w=_
      rw[lk_up,if_neg (hne w hw)]
      exact h1.keep rfl w (sees_up.2 (.inr hw))
    ·rename_i s2 b2 e
     rw[e]at h1
     obtain rfl:b2=b:=h1.no rfl
     have h2:=tryL_tt (i:=i) hr vs s2 b2
     exact⟨fun w hw=>h2.mono w (h1.mono w (sees_up.2 (.inr hw))),h2.no,h2.more,fun h w hw=>h2.keep h w (h1.mono w (sees_up.2 (.inr hw)))⟩
theorem tryF_tt (l:List (List Int)): ∀(f:Nat) (i:Int) (s:Seen) (b:By),TT i s b (tryF l f i s b)
 |0,i,s,b=>⟨fun _ h=>h,fun _=>rfl,fun h=>(by cases h),fun h=>(by cases h)⟩
 |f+1,i,s,b=>by
  rw[tryF]
  exact tryL_tt (fun s b k=>tryF_tt l f k s b) _ _ _
def Fits (l:List (List Int))(b:By):Prop:= ∀p∈b,p.1∈l.getD p.2.toNat []
theorem Fits.up {l:List (List Int)}{b:By}(h:Fits l b){v i:Int}(hv:v∈l.getD i.toNat []):Fits l (upA b v i):=fun p hp=>by
 rcases mem_upA hp with hp|rfl
 ·exact h p hp
 ·exact hv
theorem tryL_fits {l:List (List Int)}{rec:Seen→By→Int→Bool×Seen×By}{i:Int}(hr: ∀s b k,Fits l b→Fits l (rec s b k).2.2): ∀(vs:List Int) (s:Seen) (b:By),(∀v∈vs,v∈l.getD i.toNat [])→Fits l b→Fits l (tryL rec i vs s b).2.2
 | [],s,b,_,hb=>hb
 |v::vs,s,b,hv,hb=>by
  rw[tryL]
  split
  ·exact tryL_fits hr vs s b (fun w hw=>hv w (.tail _ hw)) hb
  ·split
   ·exact hb.up (hv v (.head _))
   ·rename_i k _
    have h1:=hr (upA s v true) b k hb
    split
    ·rename_i s2 b2 e
     rw[e]at h1
     exact h1.up (hv v (.head _))
    ·rename_i s2 b2 e
     rw[e]at h1
     exact tryL_fits hr vs s2 b2 (fun w hw=>hv w (.tail _ hw)) h1
theorem tryF_fits (l:List (List Int)): ∀(f:Nat) (i:Int) (s:Seen) (b:By),Fits l b→Fits l (tryF l f i s b).2.2
 |0,i,s,b,h=>h
 |f+1,i,s,b,h=>by
  rw[tryF]
  exact tryL_fits (fun s b k h=>tryF_fits l f k s b h) _ _ _ (fun _ h=>h) h
theorem giveAll_ok {l:List (List Int)}: ∀(n i:Nat) (b b2:By),n+i=l.length→Fits l b→(∀j:Int,cnt b j=if 0≤j∧j<(i:Nat)then 1 else 0)→giveAll l n i b=some b2→Fits l b2∧∀j:Int,cnt b2 j=if 0≤j∧j<(l.length:Nat)then 1 else 0
 |0,i,b,b2,hi,hb,hc,h=>by
  cases h
  rw[show l.length=i by omega]
  exact⟨hb,hc⟩
 |n+1,i,b,b2,hi,hb,hc,h=>by
  have h1:=tryF_tt l (l.flatten.length+1) (i:Nat) [] b
  have h2:=tryF_fits l (l.flatten.length+1) (i:Nat) [] b hb
  rw[giveAll]at h
  generalize hT:giveP l (i:Nat) b=R at*
  rw[show tryF l (l.flatten.length+1) (i:Nat) [] b=R from hT]at h1 h2
  obtain⟨r,s,b3⟩:=R
  cases r with
  |false=>cases h
  |true=>
   refine giveAll_ok n (i+1) b3 b2 (by omega) h2 (fun j=> ?_) h
   have:=h1.more rfl j
   simp only at this
   rw[this,hc j]
   by_cases e:((i:Nat):Int)=j
   ·rw[if_pos e,if_neg (by omega),if_pos (by omega)]
   ·rw[if_neg e]
    by_cases e2:0≤j∧j<(i:Nat)
    ·rw[if_pos e2,if_pos (by omega)]
    ·rw[if_neg e2,if_neg (by omega)]
theorem matchP_ok {l:List (List Int)}{b:By}(h:matchP l=some b):Fits l b∧∀j:Int,cnt b j=if 0≤j∧j<(l.length:Nat)then 1 else 0:=
 giveAll_ok l.length 0 [] b rfl (fun p hp=>by cases hp) (fun j=>by rw[if_neg (by omega)];rfl) h
theorem cnt_mem {b:By}{j:Int}(h:0<cnt b j): ∃p∈b,p.2=j:=by
 obtain⟨p,h1,h2⟩:=List.countP_pos_iff.1 h
 exact⟨p,h1,by simpa using h2⟩
theorem cnt_one {j:Int}: ∀{b:By},cnt b j≤1→∀(x y:Nat) (p q:Int×Int),b[x]? =some p→b[y]? =some q→p.2=j→q.2=j→x=y
 | [],_,x,y,p,q,hp,_,_,_=>by cases hp
 |r::b,h,x,y,p,q,hp,hq,h1,h2=>by
  unfold cnt at h
  rw[List.countP_cons]at h
  have key: ∀(z:Nat) (u:Int×Int),b[z]? =some u→u.2=j→0<cnt b j:=fun z u hz hu=>List.countP_pos_iff.2 ⟨u,List.mem_of_getElem? hz,by simpa using hu⟩
  cases x with
  |zero=>
   cases y with
   |zero=>rfl
   |succ y=>
    obtain rfl:=Option.some.inj hp
    have:=key y q hq h2
    unfold cnt at this
    rw[if_pos (by simpa using h1)]at h
    omega
  |succ x=>
   cases y with
   |zero=>
    obtain rfl:=Option.some.inj hq
    have:=key x p hp h1
    unfold cnt at this
    rw[if_pos (by simpa using h2)]at h
    omega
   |succ y=>
    have:=cnt_one (j:=j) (b:=b) (by unfold cnt;omega) x y p q hp hq h1 h2
    omega
structure FF (l:List (List Int))(vs:List Int)(s:Seen)(b:By)(R:Bool×Seen×By):Prop where
 all:R.1=false→∀v∈vs,sees R.2.1 v
 own:R.1=false→∀v,sees R.2.1 v→sees s v∨∃k,lkA b v=some k∧∀w∈l.getD k.toNat [],sees R.2.1 w
theorem tryL_ff {l:List (List Int)}{rec:Seen→By→Int→Bool×Seen×By}{i:Int}{f:Nat}(ht: ∀s b k,TT k s b (rec s b k))(hr: ∀s b k,unseen l s<f→0≤k→k.toNat<l.length→ByIn l b→FF l (l.getD k.toNat []) s b (rec s b k)): ∀(vs:List Int) (s:Seen) (b:By),(∀v∈vs,v∈l.flatten)→unseen l s<f+1→ByIn l b→FF l vs s b (tryL rec i vs s b)
 | [],s,b,_,_,_=>⟨fun _ v hv=>(by cases hv),fun _ v hv=> .inl hv⟩
 |v::vs,s,b,hv,hu,hb=>by
  have hv2: ∀w∈vs,w∈l.flatten:=fun w hw=>hv w (.tail _ hw)
  rw[tryL]
  split
  ·rename_i hs
   have h:=tryL_ff (i:=i) ht hr vs s b hv2 hu hb
   refine⟨fun e w hw=> ?_,h.own⟩
   cases hw with
   |head=>exact(tryL_tt (i:=i) ht vs s b).mono v hs
   |tail _ hw=>exact h.all e w hw
  ·rename_i hs
   split
   ·exact⟨fun h=>(by cases h),fun h=>(by cases h)⟩
   ·rename_i k hk
    have hq:=hb _ (lk_mem hk)
    have hlt:=unseen_lt (hv v (.head _)) hs
    have h1:=hr (upA s v true) b k (by omega) hq.1 hq.2 hb
    have h2:=ht (upA s v true) b k
    split
    ·exact⟨fun h=>(by cases h),fun h=>(by cases h)⟩
    ·rename_i s2 b2 e
     rw[e]at h1 h2
     obtain rfl:b2=b:=h2.no rfl
     have hsv:sees s2 v:=h2.mono v (sees_up.2 (.inl rfl))
     have hle:unseen l s2≤unseen l (upA s v true):=unseen_le fun w hw=>h2.mono w hw
     have h3:=tryL_ff (i:=i) ht hr vs s2 b2 hv2 (by omega) hb
     have h4:=tryL_tt (i:=i) ht vs s2 b2
     refine⟨fun e w hw=> ?_,fun e w hw=> ?_⟩
     ·cases hw with
      |head=>exact h4.mono v hsv
      |tail _ hw=>exact h3.all e w hw
     ·rcases h3.own e w hw with h5|h5
      ·rcases h1.own rfl w h5 with h6|⟨k2,h6,h7⟩
       ·rcases sees_up.1 h6 with rfl|h6
        ·exact .inr ⟨k,hk,fun u hu=>h4.mono u (h1.all rfl u hu)⟩
        ·exact .inl h6
       ·exact .inr ⟨k2,h6,fun u hu=>h4.mono u (h7 u hu)⟩
      ·exact .inr h5
theorem mem_flat {l:List (List Int)}{i:Int}: ∀v∈l.getD i.toNat [],v∈l.flatten:=fun v hv=>by
 by_cases h:i.toNat<l.length
 ·rw[List.getD_eq_getElem?_getD,List.getElem?_eq_getElem h]at hv
  exact List.mem_flatten.2 ⟨_,List.getElem_mem h,hv⟩
 ·rw[List.getD_eq_getElem?_getD,List.getElem?_eq_none (by omega)]at hv
  cases hv
theorem tryF_ff (l:List (List Int)): ∀(f:Nat) (i:Int) (s:Seen) (b:By),unseen l s<f→0≤i→i.toNat<l.length→ByIn l b→FF l (l.getD i.toNat []) s b (tryF l f i s b)
 |0,i,s,b,h,_,_,_=>by omega
 |f+1,i,s,b,h,_,_,hb=>by
  rw[tryF]
  exact tryL_ff (fun s b k=>tryF_tt l f k s b) (fun s b k h1 h2 h3 h4=>tryF_ff l f k s b h1 h2 h3 h4) _ _ _ mem_flat h hb
def Others (l:List (List Int))(g:Nat→Int):Prop:=(∀j,j<l.length→g j∈l.getD j [])∧∀j k,j<l.length→k<l.length→g j=g k→j=k
def dd:List Int→List Int
 | []=>[]
 |x::l=>if x∈l then dd l else x::dd l
theorem dd_mem {x:Int}: ∀{l:List Int},x∈dd l↔x∈l
 | []=>Iff.rfl
 |y::l=>by
  rw[dd]
  split
  ·rename_i h
   rw[dd_mem,List.mem_cons]
   constructor
   ·exact .inr
   ·rintro(rfl|h2)
    ·exact h
    ·exact h2
  ·rw[List.mem_cons,List.mem_cons,dd_mem]
theorem dd_nodup: ∀l:List Int,(dd l).Nodup
 | []=> .nil
 |y::l=>by
  rw[dd]
  split
  ·exact dd_nodup l
  ·rename_i h
   exact List.nodup_cons.2 ⟨fun h2=>h (dd_mem.1 h2),dd_nodup l⟩
theorem nodup_sub {α:Type}[DecidableEq α]: ∀{a b:List α},a.Nodup→(∀x∈a,x∈b)→a.length≤b.length
 | [],_,_,_=>Nat.zero_le _
 |x::a,b,h,hs=>by
  have hx:x∈b:=hs x (.head _)
  obtain⟨h1,h2⟩:=List.nodup_cons.1 h
  have:=nodup_sub (b:=b.erase x) h2 fun y hy=>(List.mem_erase_of_ne (fun e=>h1 (by rw[←e];exact hy))).2 (hs y (.tail _ hy))
  rw[List.length_erase_of_mem hx]at this
  have:=List.length_pos_of_mem hx
  rw[List.length_cons]
  omega
theorem nodup_map {α β:Type}{f:α→β}: ∀{a:List α},a.Nodup→(∀x∈a,∀y∈a,f x=f y→x=y)→(a.map f).Nodup
 | [],_,_=> .nil
 |x::a,h,hf=>by
  obtain⟨h1,h2⟩:=List.nodup_cons.1 h
  refine List.nodup_cons.2 ⟨fun h3=> ?_,nodup_map h2 fun y hy z hz=>hf y (.tail _ hy) z (.tail _ hz)⟩
  obtain⟨y,hy,e⟩:=List.mem_map.1 h3
  exact h1 (hf y (.tail _ hy) x (.head _) e▸hy)
theorem sees_key {s:Seen}{v:Int}(h:sees s v):v∈s.map (·.1):=by
 unfold sees at h
 cases hk:lkA s v with
 |none=>rw[hk]at h;cases h
 |some x=>exact List.mem_map.2 ⟨_,lk_mem hk,rfl⟩
theorem give_none {l:List (List Int)}{i:Nat}{b:By}(hi:i<l.length)(hb:ByIn l b)(hc: ∀j:Int,cnt b j=if 0≤j∧j<(i:Nat)then 1 else 0)(hR:(giveP l (i:Nat) b).1=false)(g:Nat→Int): ¬Others l g:=by
 rintro⟨hg,hinj⟩
 have hf:=tryF_ff l (l.flatten.length+1) (i:Nat) [] b (unseen_nil l) (by omega) (by omega) hb
 have h1:=hf.all hR
 have h2:=hf.own hR
 generalize hs:(giveP l (i:Nat) b).2.1=s at*
 have h2: ∀v,sees s v→∃k,lkA b v=some k∧∀w∈l.getD k.toNat [],sees s w:=fun v hv=>by
  rcases h2 v hv with h|h
  ·cases h
  ·exact h
 let V:=(dd (s.map (·.1))).filter fun v=>(lkA s v).getD false
 have hV: ∀v,v∈V↔sees s v:=fun v=>by
  rw[List.mem_filter,dd_mem]
  exact⟨fun h=>h.2,fun h=>⟨sees_key h,h⟩⟩
 have hVn:V.Nodup:=(dd_nodup _).filter _
 let o:Int→Nat:=fun v=>((lkA b v).getD 0).toNat
 have ho: ∀v∈V,∃k:Int,lkA b v=some k∧o v=k.toNat∧0≤k∧k<(i:Nat)∧∀w∈l.getD (o v) [],sees s w:=fun v hv=>by
  obtain⟨k,hk,hw⟩:=h2 v ((hV v).1 hv)
  have hm:=lk_mem hk
  have h0:0<cnt b k:=List.countP_pos_iff.2 ⟨_,hm,by simp⟩
  rw[hc]at h0
  have:0≤k∧k<(i:Nat):=by
   by_cases e:0≤k∧k<(i:Nat)
   ·exact e
   ·rw[if_neg e]at h0;omega
  have e:o v=k.toNat:=by show((lkA b v).getD 0).toNat=_;rw[hk];rfl
  exact⟨k,hk,e,this.1,this.2,e▸hw⟩
 have hoi: ∀v∈V,∀w∈V,o v=o w→v=w:=fun v hv w hw e=>by
  obtain⟨k,hk,h1,h3,h4,_⟩:=ho v hv
  obtain⟨k',hk',h1',h3',h4',_⟩:=ho w hw
  have ek:k=k':=by omega
  subst ek
  obtain⟨x,hx⟩:=List.getElem?_of_mem (lk_mem hk)
  obtain⟨y,hy⟩:=List.getElem?_of_mem (lk_mem hk')
  have:=cnt_one (b:=b) (j:=k) (by rw[hc];split<;>omega) x y _ _ hx hy rfl rfl
  subst this
  rw[hx]at hy
  exact congrArg Prod.fst (Option.some.inj hy)
 have hKn:(i::V.map o).Nodup:=List.nodup_cons.2 ⟨fun h=>by
  obtain⟨v,hv,e⟩:=List.mem_map.1 h
  obtain⟨k,_,h1,h3,h4,_⟩:=ho v hv
  omega,nodup_map hVn hoi⟩
 have hKl: ∀k∈i::V.map o,k<l.length:=fun k hk=>by
  cases hk with
  |head=>exact hi
  |tail _ hk=>
   obtain⟨v,hv,rfl⟩:=List.mem_map.1 hk
   obtain⟨k,_,h1,h3,h4,_⟩:=ho v hv
   omega
 have hgn:((i::V.map o).map g).Nodup:=nodup_map hKn fun x hx y hy e=>hinj x y (hKl x hx) (hKl y hy) e
 have hsub: ∀x∈(i::V.map o).map g,x∈V:=fun x hx=>by
  obtain⟨k,hk,rfl⟩:=List.mem_map.1 hx
  rw[hV]
  have hgk:=hg k (hKl k hk)
  cases hk with
  |head=>exact h1 _ (by simpa using hgk)
  |tail _ hk=>
   obtain⟨v,hv,rfl⟩:=List.mem_map.1 hk
   obtain⟨k,_,_,_,_,h5⟩:=ho v hv
   exact h5 _ hgk
 have:=nodup_sub hgn hsub
 simp at this
 omega
theorem giveAll_none {l:List (List Int)}{g:Nat→Int}(hg:Others l g): ∀(n i:Nat) (b:By),n+i=l.length→ByIn l b→(∀j:Int,cnt b j=if 0≤j∧j<(i:Nat)then 1 else 0)→giveAll l n i b≠none
 |0,i,b,hi,hb,hc,h=>by cases h
 |n+1,i,b,hi,hb,hc,h=>by
  have h1:=tryF_tt l (l.flatten.length+1) (i:Nat) [] b
  have h2:=tryF_ok l (l.flatten.length+1) (i:Nat) [] b (by omega) (by omega) hb
  have h3:=give_none (i:=i) (by omega) hb hc
  rw[giveAll]at h
  generalize hT:giveP l (i:Nat) b=R at*
  rw[show tryF l (l.flatten.length+1) (i:Nat) [] b=R from hT]at h1 h2
  obtain⟨r,s,b3⟩:=R
  cases r with
  |false=>exact h3 rfl g hg
  |true=>
   refine giveAll_none hg n (i+1) b3 (by omega) h2.byIn (fun j=> ?_) h
   have:=h1.more rfl j
   simp only at this
   rw[this,hc j]
   by_cases e:((i:Nat):Int)=j
   ·rw[if_pos e,if_neg (by omega),if_pos (by omega)]
   ·rw[if_neg e]
    by_cases e2:0≤j∧j<(i:Nat)
    ·rw[if_pos e2,if_pos (by omega)]
    ·rw[if_neg e2,if_neg (by omega)]
theorem matchP_some {l:List (List Int)}{g:Nat→Int}(hg:Others l g): ∃b,matchP l=some b:=by
 cases h:matchP l with
 |some b=>exact⟨b,rfl⟩
 |none=>exact absurd h (giveAll_none hg l.length 0 [] rfl (fun p hp=>by cases hp) fun j=>by rw[if_neg (by omega)];rfl)
def solP (b:By)(n:Nat):List Int:=(List.range n).map fun(j:Nat)=>((b.find? fun p=>decide (p.2=(j:Int))).map (·.1)).getD 0
theorem solP_at {l:List (List Int)}{b:By}(h:matchP l=some b){p:Int×Int}(hp:p∈b):0≤p.2∧p.2.toNat<l.length∧(solP b l.length)[p.2.toNat]? =some p.1:=by
 obtain⟨_,hc⟩:=matchP_ok h
 have h0:0<cnt b p.2:=List.countP_pos_iff.2 ⟨_,hp,by simp⟩
 have hr:0≤p.2∧p.2<(l.length:Nat):=by
  rw[hc]at h0
  by_cases e:0≤p.2∧p.2<(l.length:Nat)
  ·exact e
  ·rw[if_neg e]at h0;omega
 refine⟨hr.1,by omega,?_⟩
 unfold solP
 rw[List.getElem?_map,List.getElem?_range (by omega)]
 simp only[Option.map_some,Option.some.injEq]
 have e:((p.2.toNat:Nat):Int)=p.2:=by omega
 rw[e]
 cases hf:b.find? fun q=>decide (q.2=p.2)with
 |none=>exact absurd (List.find?_eq_none.1 hf p hp) (by simp)
 |some q=>
  have hq:=List.mem_of_find?_eq_some hf
  have hq2:q.2=p.2:=by simpa using List.find?_some hf
  obtain⟨x,hx⟩:=List.getElem?_of_mem hp
  obtain⟨y,hy⟩:=List.getElem?_of_mem hq
  have:=cnt_one (b:=b) (j:=p.2) (by rw[hc];split<;>omega) x y _ _ hx hy rfl hq2
  subst this
  rw[hx]at hy
  rw[←Option.some.inj hy];rfl
theorem cover {l:List (List Int)}{b:By}(h:matchP l=some b){j:Nat}(hj:j<l.length): ∃p∈b,p.2=(j:Int):=by
 obtain⟨_,hc⟩:=matchP_ok h
 exact cnt_mem (by rw[hc,if_pos (by omega)];omega)
theorem solP_others {l:List (List Int)}{b:By}(h:matchP l=some b)(hk:(b.map (·.1)).Nodup):Others l fun j=>(solP b l.length).getD j 0:=by
 obtain⟨hf,hc⟩:=matchP_ok h
 have hj: ∀j,j<l.length→∃p∈b,p.2=(j:Int)∧(solP b l.length).getD j 0=p.1:=fun j hj=>by
  obtain⟨p,hp,e⟩:=cover h hj
  have h2:=(solP_at h hp).2.2
  rw[e]at h2
  refine⟨p,hp,e,?_⟩
  rw[List.getD_eq_getElem?_getD,show j=((j:Nat):Int).toNat by omega,h2];rfl
 refine⟨fun j h1=> ?_,fun j k h1 h2 e=> ?_⟩
 ·obtain⟨p,hp,e1,e2⟩:=hj j h1
  have:=hf p hp
  rw[e1]at this
  show(solP b l.length).getD j 0∈_
  rw[e2];simpa using this
 ·obtain⟨p,hp,e1,e2⟩:=hj j h1
  obtain⟨q,hq,e3,e4⟩:=hj k h2
  have e:p.1=q.1:=by
   have e:(solP b l.length).getD j 0=(solP b l.length).getD k 0:=e
   rw[e2,e4]at e;exact e
  have:p=q:=by
   obtain⟨x,hx⟩:=List.getElem?_of_mem hp
   obtain⟨y,hy⟩:=List.getElem?_of_mem hq
   have hx1:(b.map (·.1))[x]? =some p.1:=by rw[List.getElem?_map,hx];rfl
   have hy1:(b.map (·.1))[y]? =some p.1:=by rw[List.getElem?_map,hy,e];rfl
   have:x=y:=by
    obtain⟨h3,h4⟩:=List.getElem?_eq_some_iff.1 hx1
    obtain⟨h5,h6⟩:=List.getElem?_eq_some_iff.1 hy1
    exact(List.getElem_inj hk).1 (h4.trans h6.symm)
   subst this
   rw[hx]at hy;exact Option.some.inj hy
  rw[this]at e1
  omega
def KeysN (b:By):Prop:=(b.map (·.1)).Nodup
theorem KeysN.up {v i:Int}: ∀{b:By},KeysN b→KeysN (upA b v i)
 | [],_=>by
  show List.Nodup [v]
  simp
 |p::b,h=>by
  obtain⟨h1,h2⟩:=List.nodup_cons.1 (show(p.1::b.map (·.1)).Nodup from h)
  rw[up_cons]
  split
  ·rename_i e
   show(v::b.map (·.1)).Nodup
   rw[←e]
   exact h
  ·rename_i e
   refine List.nodup_cons.2 ⟨fun h3=> ?_,KeysN.up h2⟩
   obtain⟨q,hq,e2⟩:=List.mem_map.1 h3
   rcases mem_upA hq with hq|rfl
   ·exact h1 (List.mem_map.2 ⟨q,hq,e2⟩)
   ·exact e e2.symm
theorem tryL_kn {rec:Seen→By→Int→Bool×Seen×By}{i:Int}(hr: ∀s b k,KeysN b→KeysN (rec s b k).2.2): ∀(vs:List Int) (s:Seen) (b:By),KeysN b→KeysN (tryL rec i vs s b).2.2
 | [],s,b,hb=>hb
 |v::vs,s,b,hb=>by
  rw[tryL]
  split
  ·exact tryL_kn hr vs s b hb
  ·split
   ·exact hb.up
   ·rename_i k _
    have h1:=hr (upA s v true) b k hb
    split
    ·rename_i s2 b2 e
     rw[e]at h1
     exact KeysN.up h1
    ·rename_i s2 b2 e
     rw[e]at h1
     exact tryL_kn hr vs s2 b2 h1
theorem tryF_kn (l:List (List Int)): ∀(f:Nat) (i:Int) (s:Seen) (b:By),KeysN b→KeysN (tryF l f i s b).2.2
 |0,i,s,b,h=>h
 |f+1,i,s,b,h=>by
  rw[tryF]
  exact tryL_kn (fun s b k h=>tryF_kn l f k s b h) _ _ _ h
theorem giveAll_kn {l:List (List Int)}: ∀(n i:Nat) (b b2:By),KeysN b→giveAll l n i b=some b2→KeysN b2
 |0,i,b,b2,hb,h=>by cases h;exact hb
 |n+1,i,b,b2,hb,h=>by
  have h2:=tryF_kn l (l.flatten.length+1) (i:Nat) [] b hb
  rw[giveAll]at h
  generalize hT:giveP l (i:Nat) b=R at*
  rw[show tryF l (l.flatten.length+1) (i:Nat) [] b=R from hT]at h2
  obtain⟨r,s,b3⟩:=R
  cases r with
  |false=>cases h
  |true=>exact giveAll_kn n (i+1) b3 b2 h2 h
theorem matchP_kn {l:List (List Int)}{b:By}(h:matchP l=some b):KeysN b:=giveAll_kn _ _ _ _ (by show List.Nodup [];exact .nil) h
def matchR (l:List (List Int)):List Int×Bool:=match matchP l with|some b=>(solP b l.length,true)|none=>([],false)
theorem matchR_iff (l:List (List Int)):(matchR l).2=true↔∃g,Others l g:=by
 unfold matchR
 cases h:matchP l with
 |some b=>exact⟨fun _=>⟨_,solP_others h (matchP_kn h)⟩,fun _=>rfl⟩
 |none=>
  refine⟨fun h=>(by cases h),fun⟨g,hg⟩=> ?_⟩
  obtain⟨b,hb⟩:=matchP_some hg
  rw[h]at hb;cases hb
end Go.Proofs.YtlcobmehnaeebaaGreat
