/- The texts CoreZ, CoreZA, CoreZB, CoreZC, CoreZD, CoreZE, CoreZF, CoreZG, CoreZH, CoreZI, CoreZJ, CoreZK, CoreQ of the workplace, joined. -/
import Derived.Test.YtopcjbahjjhdmaaGreatB3
import Derived.Maps.RangeRun
import Derived.MapKept
import Derived.Lib.SliceRun
import Derived.Defers
import Derived.ChangeSlices
import Derived.ChangeArms
import Derived.SizedLaws
import Derived.DataElems
namespace Go.Proofs.YtopcjbahjjhdmaaGreat
open Go Go.RowKit
open Go.ChangeMaps (setBlock)
set_option linter.unusedVariables false
set_option linter.unusedSimpArgs false
set_option linter.unusedSectionVars false
def fiA {α β:Type}[DecidableEq α](l:List (α×β))(a:α):Option Nat:=l.findIdx? λp=>decide (p.1=a)
def lkA {α β:Type}[DecidableEq α](l:List (α×β))(a:α):Option β:=(fiA l a).bind λj=>(l[j]?).map (·.2)
def upA {α β:Type}[DecidableEq α](l:List (α×β))(a:α)(b:β):List (α×β):=match fiA l a with
 |some j=>l.set j (a,b)
 |none=>l++[(a,b)]
def dlA {α β:Type}[DecidableEq α](l:List (α×β))(a:α):List (α×β):=match fiA l a with
 |some j=>l.eraseIdx j
 |none=>l
structure KeyK (P:Program)(kt:TypeId){α:Type}[DecidableEq α](ek:α->Value):Prop where
 same: ∃kind,P.underlying kt=some kind/\∀a b,Instr.sameNow kind (ek a) (ek b)=some (decide (a=b))
 chk: ∀(e:Bool) (a:α) (w:World),(Instr.checkKey e 10000 kt (ek a)).run P w= .ok () w
 bits: ∀a,Instr.sameBits 10000 (ek a) (ek a)=true
theorem sS (a b:ByteArray):(a==b)=decide (a=b):=by
 have h:(a==b)=(a.data==b.data):=rfl;rw[h];by_cases e:a=b;·subst e;simp
 ·rw[EE e];have:a.data≠b.data:=λh=>e (ByteArray.ext h);simpa using this
theorem oz {P:Program}{kt:TypeId}(h:P.underlying kt=some (.int .i64)):KeyK P kt (Value.int .i64):=by
 refine⟨⟨_,h,λa b=>by simp only[Instr.sameNow,if_true];by_cases e:a=b<;>simp[e]⟩,λe a w=> ?_,λa=>by simp[Instr.sameBits]⟩;rw[Instr.checkKey];simp only[EM,run_underlying h,EG];rfl
theorem DW {P:Program}{kt:TypeId}(h:P.underlying kt=some .string):KeyK P kt Value.string:=by
 refine⟨⟨_,h,λa b=>by simp only[Instr.sameNow,sS]⟩,λe a w=> ?_,λa=>by simp[Instr.sameBits,sS]⟩;rw[Instr.checkKey];simp only[EM,run_underlying h,EG];rfl
section
variable {α β:Type}[DecidableEq α]{P:Program}{kt:TypeId}{ek:α->Value}
theorem qx {kind:TypeDesc}(hs: ∀a b,Instr.sameNow kind (ek a) (ek b)=some (decide (a=b)))(a:α): ∀(es:List MapEntry) (l:List (α×β)) (i:Nat),L2 (λ(e:MapEntry) p=>e.key=ek p.1) es l->
  Instr.findNow kind (ek a) es i=some ((fiA l a).bind λj=>(es[j]?).map λe=>(i+j,e.val))
 | [],[],i,.nil=>rfl
 |e::es,p::l,i,.cons h hr=>by
  rw[Instr.findNow,h,hs];by_cases hab:a=p.1
  ·have hf:fiA (p::l) a=some 0:=(by simp[fiA,GU,hab]);rw[EF hab,hf];rfl
  ·have hf:fiA (p::l) a=(fiA l a).map (· +1):=(by simp[fiA,GU,Ne.symm hab]);rw[EE hab];simp only[];rw[qx hs a es l (i+1) hr,hf];cases fiA l a with
   |none=>rfl
   |some j=>simp[Fp,GF 1]
theorem sG {l:List (α×β)}{a:α}{j:Nat}(h:fiA l a=some j): ∃p,l[j]? =some p/\p.1=a:=by
 unfold fiA at h;rw[Fc]at h;obtain⟨hj,h1,_⟩:=h;exact⟨l[j],E5 hj,by simpa using h1⟩
theorem px (K:KeyK P kt ek)(w:World)(a:α){es:List MapEntry}{l:List (α×β)}(h:L2 (λ(e:MapEntry) p=>e.key=ek p.1) es l):
  (Instr.findKey kt (ek a) es).run P w= .ok ((fiA l a).bind λj=>(es[j]?).map λe=>(j,e.val)) w:=by
 obtain⟨kind,hu,hs⟩:=K.same;have hf:=qx hs a es l 0 h;simp only[Instr.findKey,EM,run_underlying hu,EG,hf];simp
theorem lf {w:World}{g:Nat}{es:Array MapEntry}{c:Nat}(h:w.heap[g]? =some (.map es c)):(getObj g).run P w= .ok (.map es c) w:=by simp[getObj,Sem.run,h]
theorem iG {w:World}{g:Nat}{es:Array MapEntry}{c:Nat}(o:Obj)(h:w.heap[g]? =some (.map es c)):(setObj g o).run P w= .ok () { w with heap:=w.heap.setIfInBounds g o }:=by simp[setObj,Sem.run,h]
theorem L2.unmap {α β γ:Type}{R:α->γ->Prop}{f:β->γ}: ∀{xas:List α} {bs:List β},L2 R xas (bs.map f)->L2 (λa b=>R a (f b)) xas bs
 | [],[],.nil=> .nil
 |_::_,_::_,.cons h hr=> .cons h hr.unmap
theorem pu {t et:TypeId}{w:World}{g:Nat}{es:Array MapEntry}{clock:Nat}{l:List (α×β)}{z:Value}(K:KeyK P kt ek)(hu:P.underlying t=some (.map kt et))(hb:w.heap[g]? =some (.map es clock))(hk:L2 (λ(e:MapEntry) p=>e.key=ek p.1) es.toList l)
  (hz:(zeroValue et).run P w= .ok z w) (a:α) (ok:Bool):(Instr.lookup t (.map (some g)) (ek a) ok).run P w= .ok (let r:=((fiA l a).bind λj=>(es.toList[j]?).map (·.val));if ok then .tuple #[r.getD z,.bool r.isSome]else r.getD z) w:=by
 have hf:=px K w a hk;have hc:=K.chk es.isEmpty a w;simp only[Instr.lookup,EM,run_underlying hu,EG,lf hb];simp only[Ev,EG,hc,hf];cases hfi:fiA l a with
 |none=>simp[hz]
 |some j=>
  obtain⟨p,hp,_⟩:=sG hfi;obtain⟨e,he,_⟩:=hk.get hp;have he':es[j]? =some e:=(by simpa using he);simp[he']
theorem xe {t et:TypeId}{w:World}{g:Nat}{es:Array MapEntry}{clock:Nat}{l:List (α×β)}(K:KeyK P kt ek)(hu:P.underlying t=some (.map kt et))(hb:w.heap[g]? =some (.map es clock))(hk:L2 (λ(e:MapEntry) p=>e.key=ek p.1) es.toList l)
  (a:α) (v:Value):(Instr.mapUpdate t (.map (some g)) (ek a) v).run P w= .ok () { w with heap:=w.heap.setIfInBounds g (match fiA l a with
   |some j=> .map (es.modify j λe=> { e with key:=ek a,val:=v }) clock
   |none=> .map (es.push { key:=ek a,val:=v,born:=clock }) (clock+1)) }:=by
 have hf:=px K w a hk;have hc:=K.chk false a w;simp only[Instr.mapUpdate,EM,run_underlying hu,EG,lf hb];simp only[Ev,EG,hc,hf];cases hfi:fiA l a with
 |none=>
  simp only[Option.bind_none];rw[iG _ hb]
 |some j=>
  obtain⟨p,hp,hpa⟩:=sG hfi;obtain⟨e,he,hek⟩:=hk.get hp;have he':es[j]? =some e:=(by simpa using he);have hkey:e.key=ek a:=(by rw[hek,hpa]);simp only[Gr,Fq,he',FJ,Fz,hkey,Instr.keyThatStays,K.bits a,if_true,EM,Ev,EG];rw[iG _ hb]
theorem xg {t et:TypeId}{w:World}{g:Nat}{es:Array MapEntry}{clock:Nat}{l:List (α×β)}(K:KeyK P kt ek)(hu:P.underlying t=some (.map kt et))(hb:w.heap[g]? =some (.map es clock))(hk:L2 (λ(e:MapEntry) p=>e.key=ek p.1) es.toList l)
  (a:α) (ty ty2:TypeId):(Builtin.delete_ #[t,ty2] ty #[.map (some g),ek a]).run P w= .ok (.tuple #[]) { w with heap:=w.heap.setIfInBounds g (match fiA l a with
   |some j=> .map (es.eraseIdxIfInBounds j) clock
   |none=> .map es clock) }:=by
 have hf:=px K w a hk;have hc:=K.chk es.isEmpty a w;simp only[Builtin.delete_,EM,G9,GG,Fl,run_underlying hu,EG,lf hb,hc,hf];cases hfi:fiA l a with
 |none=>
  simp only[Option.bind_none];rw[EM,iG _ hb];rfl
 |some j=>
  obtain⟨p,hp,hpa⟩:=sG hfi;obtain⟨e,he,hek⟩:=hk.get hp;have he':es[j]? =some e:=(by simpa using he);simp only[Gr,Fq,he',FJ];rw[EM,iG _ hb];rfl
end
theorem RelW.turn {K:Ctx}{V:EnvF}{U:Nat->Prop}{φ:Nat->Value}{a:Act}{w w':World}(h:RelW K V U φ a w){q:Nat}{c c':Own}(hq:V.own q=some c)(hos:w'.os=w.os)(htape:w'.tape=w.tape)(hout:w'.output=w.output)(hsize:w.heap.size<=w'.heap.size)
  (hkeep: ∀b,b<w.heap.size->¬VB (φ q) b->w'.heap[b]? =w.heap[b]?) (hnew:(∀f b,Zf K V φ f b->b<w.heap.size->Zf K V φ f b/\w'.heap[b]? =w.heap[b]?)->aA w' (Zf K V φ) (φ q) c'):RelW K ⟨V.slot,λj=>if j=q then some c' else V.own j⟩ U φ a w':=by
 have hdom: ∀j c2,(if j=q then some c' else V.own j)=some c2->∃c3,V.own j=some c3:=by
  intro j c2 hj;by_cases e:j=q;·subst e;exact⟨c,hq⟩
  ·rw[E4 e]at hj;exact⟨c2,hj⟩
 have hZ: ∀f b,Zf K ⟨V.slot,λj=>if j=q then some c' else V.own j⟩ φ f b↔Zf K V φ f b:=by
  intro f b;constructor
  ·refine λhb=>⟨⟨hb.1.1,λj c2 hj=> ?_⟩,hb.2⟩;by_cases e:j=q;·subst e;exact hb.1.2 j c' (E6 Y)
   ·exact hb.1.2 j c2 ((E4 e).trans hj)
  ·refine λhb=>⟨⟨hb.1.1,λj c2 hj=> ?_⟩,hb.2⟩;obtain⟨c3,h3⟩:=hdom j c2 hj;exact hb.1.2 j c3 h3
 refine h.step (λb=>VB (φ q) b) (λj=>j=q) Y (λ_ hu=>hu) (λ_ _=>rfl) hos htape hout hsize hkeep ?_ ?_ ?_ ?_;·exact λb _ hb=>⟨q,c,hq,hb,rfl⟩
 ·intro j c1 hj hne;simpa[hne]using hj
 ·rintro j c1 hj rfl;simp only[E6,E9]at hj;subst hj;refine⟨h.inU _ c hq,?_,λg' hg'=> .inr ⟨_,c,hq,hg',rfl⟩⟩;have e:Zf K ⟨V.slot,λi=>if i=j then some c' else V.own i⟩ φ=Zf K V φ:=funext λf=>funext λb=>propext (hZ f b);rw[e];refine hnew λf b hb hlt=>⟨hb,hkeep b hlt λhv=>hb.1.2 _ c hq hv⟩
 ·rintro j j' _ _ _ _ _ rfl rfl _ _;rfl
section
variable {α β:Type}[DecidableEq α]{ek:α->Value}{en:β->PV}
omit [DecidableEq α]in
theorem l0 {w:World}{Z:Nat->Prop}{es:List MapEntry}{l:List (α×β)}(h:L2 (λ(e:MapEntry) p=>e.key=p.1/\Rep w Z e.val p.2) es (l.map λp=>(ek p.1,en p.2))):L2 (λ(e:MapEntry) p=>e.key=ek p.1) es l:=h.unmap.imp λ_ _ h=>h.1
theorem pq {α:Type}(f:α->α): ∀(l:List α) (j:Nat) (x:α),l[j]? =some x->l.modify j f=l.set j (f x)
 | [],j,x,h=>by simp at h
 |y::l,0,x,h=>by simp at h;subst h;rfl
 |y::l,j+1,x,h=>by simp at h;simp[pq f l j x h]
theorem L2.erase {α β:Type}{R:α->β->Prop}{xas:List α}{bs:List β}(h:L2 R xas bs)(n:Nat):L2 R (xas.eraseIdx n) (bs.eraseIdx n):=by
 induction h generalizing n with
 |nil=>simpa using L2.nil
 |cons h k ih=>cases n with
  |zero=>exact k
  |succ n=>exact .cons h (ih n)
theorem DO {w w':World}{Zb:Bool->Nat->Prop}{fr fp:Bool}{b:Option (List Nat×Nat)}{l:List (α×β)}{u:Value}{g:Nat}{es:Array MapEntry}{clock:Nat}{a:α}{y:β}{v:Value}(hu:u= .map (some g))
  (hl:L2 (λ(e:MapEntry) p=>e.key=p.1/\Rep w (Zb fr) e.val p.2) es.toList (l.map λp=>(ek p.1,en p.2))) (hbn: ∀e∈es.toList,e.born<clock) (hnd:(es.toList.map (·.born)).Nodup) (hone: ∀p∈l.map λp=>(ek p.1,en p.2),p.2.one=true)
  (hw':w'.heap[g]? =some (match fiA l a with
   |some j=> .map (es.modify j λe=> { e with key:=ek a,val:=v }) clock
   |none=> .map (es.push { key:=ek a,val:=v,born:=clock }) (clock+1)))
  (hm: ∀f,∀v p,Rep w (Zb f) v p->Rep w' (Zb f) v p) (hv:Rep w (Zb fp) v (en y)) (hy1:(en y).one=true) (hwk: ∀f g:Bool,(g=true->f=true)->∀v p,Rep w' (Zb f) v p->Rep w' (Zb g) v p):
  aA w' Zb u (.mp (fr&&fp) none ((upA l a y).map λp=>(ek p.1,en p.2))):=by
 have hl':L2 (λ(e:MapEntry) p=>e.key=p.1/\Rep w' (Zb (fr&&fp)) e.val p.2) es.toList (l.map λp=>(ek p.1,en p.2)):=hl.imp λ_ _ h=>⟨h.1,hwk fr (fr&&fp) (by simp;intro a _;exact a) _ _ (hm fr _ _ h.2)⟩;have hv':Rep w' (Zb (fr&&fp)) v (en y):=hwk fp (fr&&fp) (by simp) _ _ (hm fp _ _ hv);unfold upA;cases hfi:fiA l a with
 |none=>
  rw[hfi]at hw';refine⟨g,_,_,hu,hw',?_,?_,?_,?_,.inl Y⟩
  ·simp only[I0,F4];exact hl'.append (.cons ⟨rfl,hv'⟩ .nil)
  ·intro e he;simp only[I0,EW,EI]at he;rcases he with he|rfl;·exact H4 (hbn e he)
   ·exact Fd _
  ·simp only[I0,F4,Ek,Gx];rw[H5];refine⟨hnd,by simp,λx hx z hz=> ?_⟩;obtain⟨e,he,rfl⟩:=EH.1 hx;simp only[EI]at hz;subst hz;exact Hr (hbn e he)
  ·intro p hp;rw[F4,EW]at hp;rcases hp with hp|hp;·exact hone p hp
   ·simp only[Ek,Gx,EI]at hp;subst hp;exact hy1
 |some j=>
  rw[hfi]at hw';obtain⟨p0,hp0,hpa⟩:=sG hfi;obtain⟨e0,he0,_⟩:=(l0 hl).get hp0;have htl:(es.modify j λe=> { e with key:=ek a,val:=v }).toList=es.toList.set j { e0 with key:=ek a,val:=v }:=(by rw[Array.toList_modify,pq _ _ _ _ he0]);have hborn:((es.toList.set j { e0 with key:=ek a,val:=v }).map (·.born))=es.toList.map (·.born):=by
   rw[Gy];apply Fo;intro i;rw[FP];by_cases e:j=i
   ·subst e;rw[E6 Y,EJ,he0];have:=(E8.1 he0).1;rw[E6 (by simpa using this)];rfl
   ·rw[E4 e]
  refine⟨g,_,_,hu,hw',?_,?_,?_,?_,.inl Y⟩
  ·rw[htl,Gy];exact hl'.set j ⟨rfl,hv'⟩
  ·intro e he;rw[htl]at he;rcases EV he with he|rfl;·exact hbn e he
   ·exact hbn e0 (EC he0)
  ·rw[htl,hborn];exact hnd
  ·intro p hp;rw[Gy]at hp;rcases EV hp with hp|rfl;·exact hone p hp
   ·exact hy1
end
section
variable {K:Ctx}{ops:Array Oper}{dr:Bool}{o:Oper}{rest:List Oper}{sl:List (Nat×SV)}{ow:List (Nat×Option Own)}{nx:Nat}{R:St->Prop}{d q:Nat}{α β:Type}[DecidableEq α]{ek:α->Value}{en:β->PV}{fr:Bool}{b:Option (List Nat×Nat)}{l:List (α×β)}{t kt et:TypeId}{x i:Operand}
theorem J.ml (a:α)(z:PV){zv:Value}{fi cok:Bool}{si:SV}{pi:PV}(ho:o.op= .lookup t x i cok)(hg:wants ops (St.mk sl ow nx).f o=some true)(hd:o.dst=some d)(hlt:K.can d=true)(hx:(St.mk sl ow nx).f.get x=some (.ref q))(hq:(St.mk sl ow nx).f.own q=some (.mp fr b (l.map λp=>(ek p.1,en p.2))))
  (hi:(St.mk sl ow nx).f.get i=some si) (hp:si.ff=some (fi,pi)) (hu:K.P.underlying t=some (.map kt et)) (hz: ∀w,(zeroValue et).run K.P w= .ok zv w) (hzr: ∀w Z,Rep w Z zv z) (hk:KeyK K.P kt ek) (hpk: ∀w Z v,Rep w Z v pi->v=ek a)
  (k:J K ops false rest ⟨(d,if cok=true then .tup [mkv fr (((lkA l a).map en).getD z),.val true (.bool (lkA l a).isSome)]else mkv fr (((lkA l a).map en).getD z))::sl,ow,nx⟩ R):J K ops false (o::rest) ⟨sl,ow,nx⟩ R:=by
 refine⟨TO.step hg ?_ k.out⟩;intro A w next Q hr hn
 obtain⟨φ,hφ⟩:=hr;obtain⟨hrx,_⟩:=ah hφ hx;have hrx:A.eval x=φ q:=hrx;have hri:=bK hφ hi hp;obtain⟨g,es,clock,hv,hb,hl,_,_,_,_⟩:=hφ.own q _ hq;have hrun:=pu (l:=l) hk hu hb (l0 hl) (hz w) a cok;have hrun':(execOp A.eval o).run K.P w= .ok (.value (let r:=((fiA l a).bind λj=>(es.toList[j]?).map (·.val));if cok then .tuple #[r.getD zv,.bool r.isSome]else r.getD zv)) w:=by
  simp only[execOp,ho,hrx,hv,hpk _ _ _ hri,EM,hrun,EG];rfl
 unfold Oper.wp;rw[hrun'];obtain⟨hval,hsome⟩:Rep w (Zf K (St.mk sl ow nx).f φ fr) (((fiA l a).bind λj=>(es.toList[j]?).map (·.val)).getD zv) (((lkA l a).map en).getD z)/\((fiA l a).bind λj=>(es.toList[j]?).map (·.val)).isSome=(lkA l a).isSome:=by
  unfold lkA;cases hfi:fiA l a with
  |none=>exact⟨hzr _ _,rfl⟩
  |some j=>
   obtain⟨p,hp,_⟩:=sG hfi;obtain⟨e,he,_,hr⟩:=hl.unmap.get hp;simp only[Gr,he,FJ,hp,Fz,Option.isSome_some,and_true];exact hr
 refine hn _ _ ⟨φ,?_⟩;rw[hd];obtain⟨h3,h4⟩:=f9 (φ:=φ) (U:=(· <nx)) (fr:=fr) (Z:=Zf K (St.mk sl ow nx).f φ) hval;cases cok with
 |false=>exact hφ.put hlt (sv:=mkv fr (((lkA l a).map en).getD z)) h3 h4 rfl slot_put
 |true=>
  have hne: ∀ag l2,mkv fr (((lkA l a).map en).getD z)≠.tupB ag l2:=λ_ l2=>(by generalize ((lkA l a).map en).getD z=p;cases p<;>simp[mkv]);have hm: ∀(v:Value) (s:SV),bg w (Zf K (St.mk sl ow nx).f φ) φ v s->(∀ag l,s≠.tupB ag l)->aE w (Zf K (St.mk sl ow nx).f φ) φ v s:=λv s hs hne=>by cases s<;>first|exact hs|exact EX Y (hne _ _)
  have hm2: ∀s:SV,s.inU (· <nx)->(∀ag l,s≠.tupB ag l)->s.in1 (· <nx):=λs hs hne=>by cases s<;>first|exact hs|exact EX Y (hne _ _)
  refine hφ.put hlt (sv:= .tup [mkv fr (((lkA l a).map en).getD z),.val true (.bool (lkA l a).isSome)]) ⟨_,rfl,.cons (hm _ _ h3 hne) (.cons ?_ .nil)⟩ (λs hs=> ?_) Y slot_put;·rw[hsome];exact Rep.bool _
  ·simp only[ET,HI,or_false]at hs;rcases hs with rfl|rfl;·exact hm2 _ h4 hne
   ·trivial
theorem J.mu (a:α)(y:β){v:Operand}{fi fp:Bool}{si sy:SV}{pi py:PV}(ho:o.op= .mapUpdate t x i v)(hg:wants ops (St.mk sl ow nx).f o=some true)(hd:o.dst=none)(hx:(St.mk sl ow nx).f.get x=some (.ref q))(hq:(St.mk sl ow nx).f.own q=some (.mp fr b (l.map λp=>(ek p.1,en p.2))))
  (hi:(St.mk sl ow nx).f.get i=some si) (hp:si.ff=some (fi,pi)) (hv:(St.mk sl ow nx).f.get v=some sy) (hpy:sy.ff=some (fp,py)) (hu:K.P.underlying t=some (.map kt et)) (h1:(en y).one=true) (hk:KeyK K.P kt ek) (hpk: ∀w Z v,Rep w Z v pi->v=ek a) (hy:py=en y)
  (k:J K ops false rest ⟨sl,(q,some (.mp (fr&&fp) none ((upA l a y).map λp=>(ek p.1,en p.2))))::ow,nx⟩ R):J K ops false (o::rest) ⟨sl,ow,nx⟩ R:=by
 refine⟨TO.step hg ?_ k.out⟩;intro A w next Q hr hn
 obtain⟨φ,hφ⟩:=hr;obtain⟨hrx,_⟩:=ah hφ hx;have hrx:A.eval x=φ q:=hrx;have hri:=bK hφ hi hp;have hrv:=bK hφ hv hpy;obtain⟨g,es,clock,hvm,hb,hl,hbn,hnd,hone,_⟩:=hφ.own q _ hq;have hrun:=xe (l:=l) hk hu hb (l0 hl) a (A.eval v);obtain⟨w',hw'⟩: ∃w':World,w'= { w with heap:=w.heap.setIfInBounds g (match fiA l a with
   |some j=> .map (es.modify j λe=> { e with key:=ek a,val:=A.eval v }) clock
   |none=> .map (es.push { key:=ek a,val:=A.eval v,born:=clock }) (clock+1)) }:=⟨_,rfl⟩
 have hrun':(execOp A.eval o).run K.P w= .ok .skip w':=by
  simp only[execOp,ho,hrx,hvm,hpk _ _ _ hri,EM,hrun,EG];rw[hw'];rfl
 unfold Oper.wp;rw[hrun'];have hput:A.put o.dst undef=A:=(by rw[hd];rfl);show next (A.put o.dst undef) w'
 rw[hput];have hglt:=(EU.1 hb).1;have hnew:w'.heap[g]? =some (match fiA l a with
   |some j=> .map (es.modify j λe=> { e with key:=ek a,val:=A.eval v }) clock
   |none=> .map (es.push { key:=ek a,val:=A.eval v,born:=clock }) (clock+1)):=by
  rw[hw'];simp[hglt]
 have hoth: ∀b',b'<w.heap.size->¬VB (φ q) b'->w'.heap[b']? =w.heap[b']? :=by
  intro b' _ hnv;have hne:g≠b':=(by rintro rfl;exact hnv (.inl (by rw[hvm];rfl)));rw[hw'];simp[hne]
 refine hn _ _ ⟨φ,?_⟩;have:=hφ.turn (w':=w') hq (by rw[hw']) (by rw[hw']) (by rw[hw']) (by rw[hw'];simp) hoth (c':= .mp (fr&&fp) none ((upA l a y).map λp=>(ek p.1,en p.2))) λhz=>by
  refine DO (b:=b) (l:=l) (a:=a) (v:=A.eval v) (clock:=clock) (es:=es) hvm hl hbn hnd hone hnew (λf v p hr=>hr.mono (hz f)) (fp:=fp) (by rw[<-hy];exact hrv) h1 (λf g hfg v p hr=>hr.weak hfg)
 have e:(St.mk sl ((q,some (.mp (fr&&fp) none ((upA l a y).map λp=>(ek p.1,en p.2))))::ow) nx).f=⟨(St.mk sl ow nx).f.slot,λj=>if j=q then some (.mp (fr&&fp) none ((upA l a y).map λp=>(ek p.1,en p.2)))else(St.mk sl ow nx).f.own j⟩:=by
  refine EnvF.ext (λ_=>rfl) λj=> ?_;simp only[St.f,ak];by_cases e:q=j;·subst e;simp
  ·rw[E4 e,E4 (Ne.symm e)]
 show RelW K (St.mk sl ((q,some (.mp (fr&&fp) none ((upA l a y).map λp=>(ek p.1,en p.2))))::ow) nx).f _ φ _ w';rw[e];exact this
theorem J.mm (ho:o.op= .makeMap t none)(hg:wants ops (St.mk sl ow nx).f o=some true)(hd:o.dst=some d)(hlt:K.can d=true)
  (k:J K ops dr rest ⟨(d,.ref nx)::sl,(nx,some (.mp true none []))::ow,nx+1⟩ R):J K ops dr (o::rest) ⟨sl,ow,nx⟩ R:=by
 refine .does hg hd hlt (.genO (xs:=[]) (l:=[]) (by simp) rfl ?_) k;intro a w _;refine⟨.map (some w.heap.size),w.alloc (.map #[] 0),?_,cT w _,λZ=>⟨w.heap.size,#[],0,rfl,heap_alloc_new w _,.nil,by simp,by simp,by simp,.inl rfl⟩,λg hg=> ?_⟩
 ·simp only[execOp,ho,GP,Instr.makeMap];rfl
 ·have:w.heap.size=g:=(by simpa[VB,aC]using hg);omega
theorem J.nxt {gs qi m clock:Nat}{bs:List Nat}{seen:Array Nat}{it:Operand}{ekp:α->PV}(ho:o.op= .next it false)(hg:wants ops (St.mk sl ow nx).f o=some true)(hd:o.dst=some d)(hlt:K.can d=true)(hi:(St.mk sl ow nx).f.get it=some (.ref qi))(hqi:(St.mk sl ow nx).f.own qi=some (.it m clock seen clock))(hgs:lk sl gs=some (.eq (.map (some m)) q))
  (hq:(St.mk sl ow nx).f.own q=some (.mp fr (some (bs,clock)) (l.map λp=>(ek p.1,en p.2)))) (hek: ∀w Z a,Rep w Z (ek a) (ekp a))
  (k0:(∀(i x:Nat),bs[i]? =some x->x∈seen)->J K ops false rest ⟨(d,.tup [.val true (.bool false)])::sl,ow,nx⟩ R)
  (k1: ∀(i:Nat) (p:α×β) (x:Nat),l[i]? =some p->bs[i]? =some x->x∉seen->J K ops false rest ⟨(d,.tup [.val true (.bool true),.val true (ekp p.1),mkv fr (en p.2)])::sl,(qi,some (.it m clock (seen.push x) clock))::ow,nx⟩ R):J K ops false (o::rest) ⟨sl,ow,nx⟩ R:=by
 refine⟨⟨λA w Q hr hn=> ?_⟩⟩;obtain⟨φ,hφ⟩:=hr;obtain⟨hri,_⟩:=ah hφ hi;have hri:A.eval it=φ qi:=hri;obtain⟨_,_,hm⟩:=hφ.slot gs _ hgs;have hm:φ q= .map (some m):=hm;obtain⟨g,es,ck,hvm,hb,hl,hbn,hnd,hone,hbb⟩:=hφ.own q _ hq;rw[hm]at hvm;cases hvm;have hbb:bs=es.toList.map (·.born)/\clock=ck:=by
  rcases hbb with h|h;·cases h
  ·simp only[E9,Prod.mk.injEq]at h;exact h
 obtain⟨hbs,rfl⟩:=hbb;obtain⟨r,hvi,hir⟩:=hφ.own qi _ hqi;unfold wpList;rw[E6 (aH hφ hg)];refine .inl ?_;have hleft: ∀e:MapEntry,e∈(leftOf es seen).toList↔e∈es.toList/\e.born∉seen:=by
  intro e;simp[leftOf]
 rcases run_next_at (P:=K.P) w o.type r m clock clock seen es clock hir hb hbn (EO _)with ⟨h0,hrun⟩|⟨e,he,w1,hw1,hrun⟩
 ·have hrun':(execOp A.eval o).run K.P w= .ok (.value (.tuple #[.bool false])) w:=by
   simp only[execOp,ho,hri,hvi,EM,hrun,EG];rfl
  unfold Oper.wp;rw[hrun'];have hall: ∀(i x:Nat),bs[i]? =some x->x∈seen:=by
   intro i x hx;rw[hbs,EJ]at hx;obtain⟨e,he,rfl⟩:=Ej.1 hx;by_cases hc:e.born∈seen;·exact hc
   ·have:=(hleft e).2 ⟨EC he,hc⟩;have h00:(leftOf es seen).toList=[]:=by
     apply EQ;simpa using h0
    rw[h00]at this;cases this
  have h3:RelW K (St.mk ((d,.tup [.val true (.bool false)])::sl) ow nx).f (· <nx) φ (A.put (some d) (.tuple #[.bool false])) w:=hφ.put hlt (sv:= .tup [.val true (.bool false)]) ⟨[.bool false],rfl,.cons (Rep.bool _) .nil⟩ (λs hs=>by simp at hs;subst hs;trivial) Y slot_put;have:=(k0 hall).out.out _ w Q ⟨φ,h3⟩ hn;rw[<-hd]at this;exact this
 ·obtain⟨he1,he2⟩:=(hleft e).1 he;obtain⟨i,hi2⟩:=EK he1;obtain⟨p,hp,hkey,hrep⟩:=hl.unmap.getl hi2;have hx:bs[i]? =some e.born:=(by rw[hbs,EJ,hi2];rfl);have hrlt:=(EU.1 hir).1;have hne:r≠m:=(by rintro rfl;rw[hir]at hb;cases hb);have hrun':(execOp A.eval o).run K.P w= .ok (.value (.tuple #[.bool true,e.key,e.val])) (setBlock w1 r (.mapIter (some m) clock (seen.push e.born) clock)):=by
   simp only[execOp,ho,hri,hvi,EM,hrun,EG];rfl
  unfold Oper.wp;rw[hrun'];have hw1h:w1.heap=w.heap/\w1.os=w.os/\w1.tape=w.tape/\w1.output=w.output:=(by rcases hw1 with rfl|rfl<;>exact⟨rfl,rfl,rfl,rfl⟩);have hoth: ∀b',b'<w.heap.size->¬VB (φ qi) b'->(setBlock w1 r (.mapIter (some m) clock (seen.push e.born) clock)).heap[b']? =w.heap[b']? :=by
   intro b' _ hnv;have hne:r≠b':=(by rintro rfl;exact hnv (.inl (by rw[hvi];rfl)));simp[setBlock,hw1h.1,hne]
  have h2:=hφ.turn (w':=setBlock w1 r (.mapIter (some m) clock (seen.push e.born) clock)) hqi hw1h.2.1 hw1h.2.2.1 hw1h.2.2.2 (by simp[setBlock,hw1h.1]) hoth (c':= .it m clock (seen.push e.born) clock) λ_=>⟨r,hvi,by simp[setBlock,hw1h.1,hrlt]⟩;have e1:(St.mk sl ((qi,some (.it m clock (seen.push e.born) clock))::ow) nx).f=⟨(St.mk sl ow nx).f.slot,λj=>if j=qi then some (.it m clock (seen.push e.born) clock)else(St.mk sl ow nx).f.own j⟩:=by
   refine EnvF.ext (λ_=>rfl) λj=> ?_;simp only[St.f,ak];by_cases e:qi=j;·subst e;simp
   ·rw[E4 e,E4 (Ne.symm e)]
  rw[<-e1]at h2;have hqne:q≠qi:=(by rintro rfl;rw[hq]at hqi;cases hqi);obtain⟨g2,es2,ck2,hvm2,hb2,hl2,_⟩:=h2.own q (.mp fr (some (bs,clock)) (l.map λp=>(ek p.1,en p.2))) (by simp only[St.f,ak];rw[E4 (Ne.symm hqne)];exact hq);rw[hm]at hvm2;cases hvm2;have hes:es2=es:=by
   have h5:(setBlock w1 r (.mapIter (some m) clock (seen.push e.born) clock)).heap[m]? =w.heap[m]? :=(by simp[setBlock,hw1h.1,hne]);rw[h5,hb]at hb2;cases hb2;rfl
  subst hes;obtain⟨p2,hp2,_,hrep2⟩:=hl2.unmap.getl hi2;rw[hp]at hp2;cases hp2;obtain⟨h3,h4⟩:=f9 (φ:=φ) (U:=(· <nx)) (fr:=fr) (Z:=Zf K (St.mk sl ((qi,some (.it m clock (seen.push e.born) clock))::ow) nx).f φ) hrep2;have hne2: ∀ag l2,mkv fr (en p.2)≠.tupB ag l2:=λ_ l2=>(by generalize en p.2=pp;cases pp<;>simp[mkv]);have hm1: ∀(w:World) (v:Value) (s:SV),bg w (Zf K (St.mk sl ((qi,some (.it m clock (seen.push e.born) clock))::ow) nx).f φ) φ v s->(∀ag l,s≠.tupB ag l)->aE w (Zf K (St.mk sl ((qi,some (.it m clock (seen.push e.born) clock))::ow) nx).f φ) φ v s:=λw v s hs hne=>by cases s<;>first|exact hs|exact EX Y (hne _ _)
  have hm2: ∀s:SV,s.inU (· <nx)->(∀ag l,s≠.tupB ag l)->s.in1 (· <nx):=λs hs hne=>by cases s<;>first|exact hs|exact EX Y (hne _ _)
  have h5:RelW K (St.mk ((d,.tup [.val true (.bool true),.val true (ekp p.1),mkv fr (en p.2)])::sl) ((qi,some (.it m clock (seen.push e.born) clock))::ow) nx).f (· <nx) φ (A.put (some d) (.tuple #[.bool true,e.key,e.val])) _:=
   h2.put hlt (sv:= .tup [.val true (.bool true),.val true (ekp p.1),mkv fr (en p.2)]) ⟨[.bool true,e.key,e.val],rfl,.cons (Rep.bool _) (.cons (by rw[hkey];exact hek _ _ _) (.cons (hm1 _ _ _ h3 hne2) .nil))⟩ (λs hs=>by
    simp only[ET,HI,or_false]at hs;rcases hs with rfl|rfl|rfl;·trivial
    ·trivial
    ·exact hm2 _ h4 hne2) Y slot_put
  have:=(k1 i p e.born hp hx he2).out.out _ _ Q ⟨φ,h5⟩ hn;rw[<-hd]at this;exact this
end
theorem Rel.fine {K:Ctx}{sl:List (Nat×SV)}{ow:List (Nat×Option Own)}{nx s:Nat}{p:PV}{fr:Bool}(hs:lk sl s=some (.val fr p))(hf:p.flat=true)(a:Act)(w:World)(h:Rel K ⟨sl,ow,nx⟩ a w):Rel K ⟨(s,.val true p)::sl,ow,nx⟩ a w:=by
 obtain⟨φ,hφ⟩:=h;obtain⟨v,hv,hr⟩:=hφ.slot s _ hs;have hr:Rep w _ v p:=hr;exact⟨φ,hφ.reslot (sv:= .val true p) hv (hr.flat hf) trivial Y slot_put⟩
theorem L2.flat {w:World}{Z Z':Nat->Prop}: ∀{vs:List Value} {ps:List PV},L2 (Rep w Z) vs ps->(∀p∈ps,p.flat=true)->L2 (Rep w Z') vs ps
 |_,_,.nil,_=> .nil
 |_,_,.cons h1 h2,hf=> .cons (h1.flat (hf _ (.head _))) (h2.flat λp hp=>hf p (.tail _ hp))
theorem Rel.fineF {K:Ctx}{sl:List (Nat×SV)}{ow:List (Nat×Option Own)}{nx s:Nat}{f:Fn}{first caps:List PV}{fr:Bool}(hs:lk sl s=some (.val fr (.fn f first caps)))(h1:first.all PV.flat=true)(h2:caps.all PV.flat=true)(a:Act)(w:World)(h:Rel K ⟨sl,ow,nx⟩ a w):Rel K ⟨(s,.val true (.fn f first caps))::sl,ow,nx⟩ a w:=by
 obtain⟨φ,hφ⟩:=h;obtain⟨v,hv,hr⟩:=hφ.slot s _ hs;have hr:Rep w _ v (.fn f first caps):=hr;refine⟨φ,hφ.reslot (sv:= .val true (.fn f first caps)) hv ?_ trivial Y slot_put⟩;show Rep w _ v (.fn f first caps);cases hr with
 |fn _ vs us _ _ ha hb=>exact .fn _ _ _ _ _ (ha.flat (EN.1 h1)) (hb.flat (EN.1 h2))
end Go.Proofs.YtopcjbahjjhdmaaGreat
namespace Go.Proofs.YtopcjbahjjhdmaaGreat
open Go Go.RowKit
set_option linter.unusedVariables false
set_option linter.unusedSimpArgs false
set_option linter.unusedSectionVars false
theorem iP {α β:Type}(f:α->β): ∀(l:List α) (j:Nat),(l.eraseIdx j).map f=(l.map f).eraseIdx j
 | [],j=>by simp
 |x::l,0=>by simp
 |x::l,j+1=>by simp[iP f l j]
theorem yH {w:World}{Z:Nat->Prop}{v u:Value}(h:Rep w Z v (.raw u)):v=u:=by cases h;rfl
section
variable {K:Ctx}{ops:Array Oper}{dr:Bool}{o:Oper}{rest:List Oper}{sl:List (Nat×SV)}{ow:List (Nat×Option Own)}{nx:Nat}{R:St->Prop}{d q:Nat}{α β:Type}[DecidableEq α]{ek:α->Value}{en:β->PV}{fr:Bool}{b:Option (List Nat×Nat)}{l:List (α×β)}{t kt et:TypeId}{x i:Operand}
theorem J.lm (g:Nat)(a:α){zv u:Value}{q':Nat}{fi:Bool}{si:SV}{pi:PV}(ho:o.op= .lookup t x i false)(hg:wants ops (St.mk sl ow nx).f o=some true)(hd:o.dst=some d)(hlt:K.can d=true)(hx:(St.mk sl ow nx).f.get x=some (.ref q))(hq:(St.mk sl ow nx).f.own q=some (.mp fr b (l.map λp=>(ek p.1,en p.2))))
  (hi:(St.mk sl ow nx).f.get i=some si) (hp:si.ff=some (fi,pi)) (hu:K.P.underlying t=some (.map kt et)) (hz: ∀w,(zeroValue et).run K.P w= .ok zv w) (hk:KeyK K.P kt ek) (hpk: ∀w Z v,Rep w Z v pi->v=ek a)
  (hval:((lkA l a).map en=some (.raw u))∨(lkA l a=none/\zv=u)) (hgs:lk sl g=some (.eq u q')) (hall:(ops.toList.all λo'=>o'.dst != some g)=true) (k:J K ops true rest ⟨(d,.ref q')::sl,ow,nx⟩ R):J K ops true (o::rest) ⟨sl,ow,nx⟩ R:=by
 obtain⟨E',h1,h2⟩:=k.out;refine⟨E',?_,h2⟩;refine TD.step (r:=⟨some d,.ref q',[],nx,none⟩) (.lmap hg hd hlt ho hx hq hi hp ?_ hgs hall) ?_
 ·intro A w Z hown hri;obtain⟨gb,es,clock,hv,hb,hl,_⟩:=hown;have hrun:=pu (l:=l) hk hu hb (l0 hl) (hz w) a false;simp only[execOp,ho,hv,hpk _ _ _ hri,EM,hrun,EG];have e:((fiA l a).bind λj=>(es.toList[j]?).map (·.val)).getD zv=u:=by
   unfold lkA at hval;cases hfi:fiA l a with
   |none=>
    rw[hfi]at hval;rcases hval with h|⟨_,h⟩;·cases h
    ·exact h
   |some j=>
    rw[hfi]at hval;obtain⟨p,hp,_⟩:=sG hfi;obtain⟨e,he,_,hr⟩:=hl.unmap.get hp;simp only[Gr,hp,FJ,E9]at hval;rcases hval with h|⟨h,_⟩
    ·rw[h]at hr;simp only[Gr,he,FJ,Fz];exact yH hr
    ·cases h
  simp only[FC,if_false];rw[e];rfl
 ·have e1:upd (St.mk sl ow nx).f ⟨some d,.ref q',[],nx,none⟩=(St.mk ((d,.ref q')::sl) ow nx).f:=by
   refine EnvF.ext (λs=> ?_) (λi=> ?_);·simp only[upd,St.f,ak,E9]
   ·simp only[upd,St.f];exact cK _ _ _
  rw[e1];exact h1
theorem J.dl (a:α){args:Array Operand}{tys:Array TypeId}{t2:TypeId}{fi:Bool}{si:SV}{pi:PV}(ho:o.op= .call { callee:= .builtin .delete,args:=args,argTypes:=tys })(ha:args.toList=[x,i])(ht:tys.toList=[t,t2])(hg:wants ops (St.mk sl ow nx).f o=some true)(hd:o.dst=none)(hx:(St.mk sl ow nx).f.get x=some (.ref q))(hq:(St.mk sl ow nx).f.own q=some (.mp fr b (l.map λp=>(ek p.1,en p.2))))
  (hi:(St.mk sl ow nx).f.get i=some si) (hp:si.ff=some (fi,pi)) (hu:K.P.underlying t=some (.map kt et)) (hk:KeyK K.P kt ek) (hpk: ∀w Z v,Rep w Z v pi->v=ek a)
  (k:J K ops false rest ⟨sl,(q,some (.mp fr none ((dlA l a).map λp=>(ek p.1,en p.2))))::ow,nx⟩ R):J K ops false (o::rest) ⟨sl,ow,nx⟩ R:=by
 refine⟨TO.step hg ?_ k.out⟩;intro A w next Q hr hn
 have ea:args= #[x,i]:=(by rw[<-FQ (xs:=args),ha]);have et':tys= #[t,t2]:=(by rw[<-FQ (xs:=tys),ht]);subst ea et';obtain⟨φ,hφ⟩:=hr;obtain⟨hrx,_⟩:=ah hφ hx;have hrx:A.eval x=φ q:=hrx;have hri:=bK hφ hi hp;obtain⟨g,es,clock,hvm,hb,hl,hbn,hnd,hone,_⟩:=hφ.own q _ hq;have hrun:=xg (l:=l) hk hu hb (l0 hl) a o.type t2;obtain⟨w',hw'⟩: ∃w':World,w'= { w with heap:=w.heap.setIfInBounds g (match fiA l a with
   |some j=> .map (es.eraseIdxIfInBounds j) clock
   |none=> .map es clock) }:=⟨_,rfl⟩
 have hrun':(execOp A.eval o).run K.P w= .ok (.value (.tuple #[])) w':=by
  simp only[execOp,ho,resolve,invoke,builtin,EM,Ev,EG,Ha,Ek,Gx,hrx,hvm,hpk _ _ _ hri,hrun];rw[hw']<;>rfl
 unfold Oper.wp;rw[hrun'];have hput:A.put o.dst (.tuple #[])=A:=(by rw[hd];rfl);show next (A.put o.dst (.tuple #[])) w'
 rw[hput];have hglt:=(EU.1 hb).1;have hnew:w'.heap[g]? =some (match fiA l a with
   |some j=> .map (es.eraseIdxIfInBounds j) clock
   |none=> .map es clock):=by
  rw[hw'];simp[hglt]
 have hoth: ∀b',b'<w.heap.size->¬VB (φ q) b'->w'.heap[b']? =w.heap[b']? :=by
  intro b' _ hnv;have hne:g≠b':=(by rintro rfl;exact hnv (.inl (by rw[hvm];rfl)));rw[hw'];simp[hne]
 refine hn _ _ ⟨φ,?_⟩;have:=hφ.turn (w':=w') hq (by rw[hw']) (by rw[hw']) (by rw[hw']) (by rw[hw'];simp) hoth (c':= .mp fr none ((dlA l a).map λp=>(ek p.1,en p.2))) λhz=>by
  have hl':L2 (λ(e:MapEntry) p=>e.key=p.1/\Rep w' (Zf K (St.mk sl ow nx).f φ fr) e.val p.2) es.toList (l.map λp=>(ek p.1,en p.2)):=hl.imp λ_ _ h=>⟨h.1,h.2.mono (hz fr)⟩;unfold dlA;cases hfi:fiA l a with
  |none=>
   rw[hfi]at hnew;exact⟨g,_,_,hvm,hnew,hl',hbn,hnd,hone,.inl Y⟩
  |some j=>
   rw[hfi]at hnew;have htl:(es.eraseIdxIfInBounds j).toList=es.toList.eraseIdx j:=(by simp);refine⟨g,_,_,hvm,hnew,?_,λe he=> ?_,?_,λp hp=> ?_,.inl Y⟩
   ·rw[htl,iP];exact hl'.erase j
   ·rw[htl]at he;exact hbn e (I3 he)
   ·rw[htl,iP];exact hnd.sublist (List.eraseIdx_sublist _ _)
   ·rw[iP]at hp;exact hone p (I3 hp)
 have e:(St.mk sl ((q,some (.mp fr none ((dlA l a).map λp=>(ek p.1,en p.2))))::ow) nx).f=⟨(St.mk sl ow nx).f.slot,λj=>if j=q then some (.mp fr none ((dlA l a).map λp=>(ek p.1,en p.2)))else(St.mk sl ow nx).f.own j⟩:=by
  refine EnvF.ext (λ_=>rfl) λj=> ?_;simp only[St.f,ak];by_cases e:q=j;·subst e;simp
  ·rw[E4 e,E4 (Ne.symm e)]
 show RelW K (St.mk sl ((q,some (.mp fr none ((dlA l a).map λp=>(ek p.1,en p.2))))::ow) nx).f _ φ _ w';rw[e];exact this
end
section
variable {K:Ctx}{sl:List (Nat×SV)}{ow:List (Nat×Option Own)}{nx:Nat}{a:Act}{w:World}
theorem Rel.meltM {qc q:Nat}{e:TypeId}{sz:Nat}{frc fr:Bool}{b:Option (List Nat×Nat)}{L:List (Value×List (List PV))}(ml:List (Value×Value×List (List PV)))(hin: ∀p∈ml,p.2∈L)(hM: ∀b,¬K.M b)(hc:(St.mk sl ow nx).f.own qc=some (.mp frc b (ml.map λp=>(p.1,.raw p.2.1))))(ho:(St.mk sl ow nx).f.own q=some (.fam e sz fr L))(hne:Nat.beq q qc=false)(h:Rel K ⟨sl,ow,nx⟩ a w):
  Rel K ⟨sl,(qc,some (.mp (frc&&fr) b (ml.map λp=>(p.1,.sl p.2.2))))::(q,none)::ow,nx⟩ a w:=by
 obtain⟨φ,hφ⟩:=h;have hne':q≠qc:=λe=>(by subst e;simp at hne);obtain⟨hv,hl,hdis⟩:=hφ.own q _ ho;have hown': ∀i c,(St.mk sl ((q,none)::ow) nx).f.own i=some c->i≠q/\(St.mk sl ow nx).f.own i=some c:=by
  intro i c hq;simp only[St.f,ak]at hq;by_cases e:q=i;·rw[E6 e]at hq;cases hq
  ·rw[E4 e]at hq;exact⟨Ne.symm e,hq⟩
 have hZ: ∀f b,Zf K (St.mk sl ow nx).f φ f b->Zf K (St.mk sl ((q,none)::ow) nx).f φ f b:=
  λf b hb=>⟨⟨hb.1.1,λi c hq=>hb.1.2 i c (hown' i c hq).2⟩,hb.2⟩
 have h1:RelW K (St.mk sl ((q,none)::ow) nx).f (· <nx) φ a w:=by
  refine⟨hφ.df,hφ.sz,hφ.old,hφ.kept,?_,?_,?_,?_,?_,hφ.sin⟩
  ·intro i c hq;exact(hφ.own i c (hown' i c hq).2).mono (λ_ _=>rfl) λf b hb _=>⟨hZ f b hb,rfl⟩
  ·intro i c g hq;exact hφ.mine i c g (hown' i c hq).2
  ·intro i c hq;exact hφ.inU i c (hown' i c hq).2
  ·intro i i' c c' g hq hq';exact hφ.dis i i' c c' g (hown' i c hq).2 (hown' i' c' hq').2
  ·intro t sv h;obtain⟨v,hv,hr⟩:=hφ.slot t sv h;exact⟨v,hv,hr.mono (hφ.sin t sv h) (λf b hb _=>⟨hZ f b hb,rfl⟩) (λ_ _=>rfl)⟩
 have hfz: ∀p∈L,Rep w (Zf K (St.mk sl ((q,none)::ow) nx).f φ fr) p.1 (.sl p.2):=by
  intro p hp;obtain⟨xs,hwn,hxl,h2,h3⟩:=hl p hp;have hl':L2 (Rep w (Zf K (St.mk sl ((q,none)::ow) nx).f φ fr)) xs p.2.flatten:=Rep.monoL (λb hb _=>⟨hZ fr b hb,rfl⟩) hxl;have hcell:=λg hg=>hwn.cells (g:=g) hg;have hlt:=hwn.lt;obtain⟨v,rows⟩:=p;rcases hwn.2 with ⟨hv0,hn⟩|⟨g,cap,cur,hv0,_,hgc,hnc,hcm,_⟩
  ·simp only at hv0 hn;rw[hv0];have:rows=[]:=EQ hn;subst this;exact .nilsl
  ·simp only at hv0 hcell hlt hl' h2 h3 hgc hnc hcm⊢;have hvbp:VB (φ q) g:=(by rw[hv];exact qy.2 ⟨_,hp,by simp only[hv0];rfl⟩);have hm:=hφ.mine q _ g ho hvbp;have hge:K.w0.heap.size<=g:=hm.resolve_right (hM g);rw[hv0]at hcell hlt⊢;refine .sl g 0 cap sz rows xs ⟨⟨.inl hge,λi c hq hvq=> ?_⟩,λ_=>K.hF _ hge⟩ (hlt g Y).2 h2 h3 (λj v hj=> ?_) hnc hcm hl'
   ·obtain⟨hne,hq'⟩:=hown' i c hq;exact hne (hφ.dis i q c _ g hq' ho hvq hvbp)
   ·have:=hcell g Y j v hj;rw[bE]at this;exact ce hgc this
 have hc':(St.mk sl ((q,none)::ow) nx).f.own qc=some (.mp frc b (ml.map λp=>(p.1,.raw p.2.1))):=by
  simp only[St.f,ak];rw[E4 hne'];exact hc
 refine⟨φ,h1.reown hc' ?_⟩;obtain⟨g',es,clock,hvm,hb,hle,hbn,hnd,hone,hbb⟩:=h1.own qc _ hc';refine⟨g',es,clock,hvm,hb,?_,hbn,hnd,λp hp=> ?_,hbb⟩
 ·refine L2.ofGet (by simpa using hle.length) λi v p hi hp=> ?_;rw[EJ]at hp;obtain⟨pl,hpl,rfl⟩:=Ej.1 hp;obtain⟨p',hp',hk,hr⟩:=hle.getl hi;rw[EJ,hpl]at hp';cases hp';refine⟨hk,?_⟩;have e:=yH hr;show Rep w _ v.val _;rw[e];exact(hfz _ (hin _ (EC hpl))).weak (by simp)
 ·obtain⟨pl,_,rfl⟩:=EH.1 hp;rfl
end
structure SpecP (P:Program)(f:FuncId)(us:List Value)(cs:List Own)(e:TypeId)(sz:Nat)(rows:List (List PV))(args:List PV)(rows':List (List PV)):Prop where
 isFn: ∃fn,P.funcs[f]? =some fn/\fn.body.isSome=true/\(fn.name== "runtime.NumGoroutine")=false
 out: ∀(w:World) (Z1:Nat->Prop) (v0:Value) (vs:List Value),aA w (λ_=>Z1) v0 (.sl e sz true rows)->(∀b,Z1 b->¬VB v0 b)->L2 (aA w λ_ b=> ¬VB v0 b/\Off us b) us cs->ib us->(∀u g,u∈us->VB u g->¬VB v0 g)->L2 (Rep w (λb=> ¬VB v0 b/\Off us b)) vs args->
  Calls P f (v0::vs).toArray w λx w'=> ∃r:Value,x= .returned r/\w'.os=w.os/\w'.tape=w.tape/\w'.output=w.output/\w.heap.size<=w'.heap.size/\(∀b,b<w.heap.size->¬VB v0 b->w'.heap[b]? =w.heap[b]?)/\
   aA w' (λ_ b=>Z1 b/\¬VB r b) r (.sl e sz true rows')/\∀g,VB r g->VB v0 g∨w.heap.size<=g
theorem J.cp {K:Ctx}{ops:Array Oper}{o:Oper}{rest:List Oper}{sl:List (Nat×SV)}{ow:List (Nat×Option Own)}{nx:Nat}{R:St->Prop}{d:Nat}{x x0:Operand}{xs:List Operand}{args:Array Operand}{tys:Array TypeId}{f:FuncId}{fx fr:Bool}{q sz:Nat}{e:TypeId}{rows rows' rows2:List (List PV)}{ps ps':List PV}{us:List Value}{cs cs2:List Own}{qs:List Nat}(gs:List Nat)
  (ho:o.op= .call { callee:= .value x,args:=args,argTypes:=tys }) (hg:wants ops (St.mk sl ow nx).f o=some true) (hd:o.dst=some d) (hlt:K.can d=true) (hx:(St.mk sl ow nx).f.get x=some (.val fx (.fn (.func f) [] []))) (ha:args.toList=x0::xs)
  (h0:(St.mk sl ow nx).f.get x0=some (.ref q)) (hq:(St.mk sl ow nx).f.own q=some (.sl e sz fr rows2)) (hspec:SpecP K.P f us cs e sz rows ps' rows') (hheld:ze (St.mk sl ow nx).f gs us cs2 qs) (hdup:dup (q::qs)=false) (hcs:cs2.map (Own.reg true)=cs.map (Own.reg true))
  (hne:(xs.all λy=>(q::qs).all λq=>nr q ((St.mk sl ow nx).f.get y))=true) (hrw:rows2=rows) (hps:cz (St.mk sl ow nx).f false xs=some ps) (hpe:ps=ps')
  (k:J K ops false rest ⟨(d,.ref nx)::sl,(nx,some (.sl e sz fr rows'))::(q,none)::ow,nx+1⟩ R):J K ops false (o::rest) ⟨sl,ow,nx⟩ R:=by
 subst hrw hpe;refine⟨TO.mk λa w Q hr hQ=> ?_⟩;obtain⟨φ,hφ⟩:=hr;unfold wpList;rw[E6 (aH hφ hg)];refine .inl ?_;obtain⟨hrf,_⟩:=ah hφ hx;generalize hvx:a.eval x=vx at hrf;cases hrf with
 |fn _ vs vcs _ _ hf hc=>
 cases hf;cases hc;obtain⟨fn,hfn,hbody,hname⟩:=hspec.isFn;obtain⟨hr0,_⟩:=ah hφ h0;have hr0:a.eval x0=φ q:=hr0;have hrun:(execOp a.eval o).run K.P w= .ok (.enter f (φ q::xs.map a.eval).toArray) w:=by
  have hb:fn.body.isNone=false:=(by cases hfb:fn.body<;>simp_all);simp only[execOp,ho,resolve,hvx,Deferred.ofValue,EM,Ev,EG,invoke,callFunc,run_program,hfn,hname,hb,FC,if_false];congr 2;apply Array.ext';simp[ha,hr0]
 unfold Oper.wp;rw[hrun];have hoq:=hφ.own q _ hq;have hqx:q<nx:=hφ.inU q _ hq;obtain⟨⟨hl1,hl2⟩,hat⟩:=qp hheld;have hcl:cs2.length=cs.length:=(by have:=congrArg List.length hcs;simpa using this);have hval: ∀(i q':Nat) (u:Value),qs[i]? =some q'->us[i]? =some u->φ q'=u:=by
  intro i q' u h1 h2;obtain⟨u',c,g,h3,_,_,h5⟩:=hat i q' h1;rw[h2]at h3;cases h3;obtain⟨_,_,e⟩:=hφ.slot g _ h5;exact e
 have hinj:=fW (q::qs) hdup;have hownq: ∀q'∈q::qs,∃c,(St.mk sl ow nx).f.own q'=some c:=λq' hq'=>by
  rcases ET.1 hq' with rfl|hq';·exact⟨_,hq⟩
  ·obtain⟨i,hi⟩:=EK hq';obtain⟨_,c,_,_,_,h,_⟩:=hat i q' hi;exact⟨c,h⟩
 have hus: ∀u∈us,∃(i:Nat) (q':Nat),qs[i]? =some q'/\us[i]? =some u/\φ q'=u:=λu hu=>by
  obtain⟨i,hi⟩:=EK hu;have hil:=(E8.1 hi).1;have hq':qs[i]? =some (qs[i]'(by omega)):=E5 (by omega);exact⟨i,_,hq',hi,hval i _ u hq' hi⟩
 have hnq: ∀q'∈qs,q'≠q:=λq' hq' e=>by
  obtain⟨i,hi⟩:=EK hq';have:=hinj 0 (i+1) q (by rfl) (by simpa[e]using hi);omega
 have hoff: ∀b,(∀q'∈q::qs,¬VB (φ q') b)->¬VB (φ q) b/\Off us b:=by
  intro b hb;refine⟨hb q (.head _),λu hu hv=> ?_⟩;obtain⟨i,q',h1,_,e⟩:=hus u hu;exact hb q' (.tail _ (EC h1)) (by rw[e];exact hv)
 have hZoff: ∀f b,Zf K (St.mk sl ow nx).f φ f b->¬VB (φ q) b/\Off us b:=λf b hb=>hoff b λq' hq'=>by
  obtain⟨c,hc⟩:=hownq q' hq';exact hb.1.2 q' c hc
 have hL2:L2 (aA w λ_ b=> ¬VB (φ q) b/\Off us b) us cs:=by
  refine L2.ofGet (by omega) λi u c hi hc=> ?_;have hil:=(E8.1 hi).1;have hq':qs[i]? =some (qs[i]'(by omega)):=E5 (by omega);obtain⟨u',c2,g,h1,h2,h3,h4⟩:=hat i _ hq';rw[hi]at h1;cases h1;have e:=hval i _ u hq' hi;have h5:=hφ.own _ c2 h3;rw[e]at h5;refine vt (pO h5 λb hb=>hZoff _ b hb) ?_;have e2:(cs2.map (Own.reg true))[i]? =(cs.map (Own.reg true))[i]? :=(by rw[hcs]);rw[EJ,EJ,h2,hc]at e2;exact E7 e2
 have hap:ib us:=by
  intro i j u v g hi hj h1 h2;have hil:=(E8.1 hi).1;have hjl:=(E8.1 hj).1;have hqi:qs[i]? =some (qs[i]'(by omega)):=E5 (by omega);have hqj:qs[j]? =some (qs[j]'(by omega)):=E5 (by omega);obtain⟨_,ci,_,_,_,oi,_⟩:=hat i _ hqi;obtain⟨_,cj,_,_,_,oj,_⟩:=hat j _ hqj;have:=hφ.dis _ _ ci cj g oi oj (by rw[hval i _ u hqi hi];exact h1) (by rw[hval j _ v hqj hj];exact h2);have:=hinj (i+1) (j+1) _ (by rw[Fl];exact hqi) (by rw[Fl,this];exact hqj);omega
 refine(hspec.out w (Zf K (St.mk sl ow nx).f φ fr) (φ q) (xs.map a.eval) hoq (λb hb=>hb.1.2 q _ hq) hL2 hap (λu g hu hv hv0=> ?_) ((B6 hφ hownq xs ps hps hne).imp λv p h=>h.mono λb hb _=>⟨hoff b hb,rfl⟩)).mono ?_
 ·obtain⟨i,q',h1,_,e⟩:=hus u hu;obtain⟨c,hc⟩:=hownq q' (.tail _ (EC h1));exact hnq q' (EC h1) (hφ.dis q' q c _ g hc hq (by rw[e];exact hv) hv0)
 rintro _ w' ⟨r,rfl,hos,htape,hout,hsize,hblk,hown',hvr⟩;let φ':Nat->Value:=λi=>if i=nx then r else φ i
 have hrel:RelW K ⟨(St.mk sl ow nx).f.slot,aK (St.mk sl ow nx).f.own (some q) nx (.sl e sz fr rows')⟩ (λi=>i<nx∨i=nx) φ' a w':=by
  have hZ: ∀f b,Zf K (St.mk sl ow nx).f φ f b->¬VB r b->Zf K ⟨(St.mk sl ow nx).f.slot,aK (St.mk sl ow nx).f.own (some q) nx (.sl e sz fr rows')⟩ φ' f b:=by
   refine λf b hb hnr=>⟨⟨hb.1.1,λi c hi hv=> ?_⟩,hb.2⟩;simp only[aK]at hi;by_cases e1:i=nx
   ·subst e1;simp only[φ',E6]at hv;exact hnr hv
   ·rw[E4 e1]at hi;simp only[φ',E4 e1]at hv;split at hi;·cases hi
    ·exact hb.1.2 i c hi hv
  refine hφ.step (λb=>VB (φ q) b) (λi=>i=nx∨i=q) Y (λ_ hu=> .inl hu) (λi hi=>by simp only[φ',E4 (Hr hi)]) hos htape hout hsize (λb hb hne=>hblk b hb hne) ?_ ?_ ?_ ?_
  ·intro b _ hb;exact⟨q,_,hq,hb,.inr Y⟩
  ·intro i c hi hc;simp only[aK]at hi;rw[E4 (λe=>hc (.inl e)),E4 (λe=>hc (.inr (E7 e).symm))]at hi;exact hi
  ·intro i c hi hc;have hin:i=nx:=by
    rcases hc with hc|hc;·exact hc
    ·simp only[aK]at hi;by_cases e:i=nx;·exact e
     ·rw[E4 e,E6 (by rw[hc])]at hi;cases hi
   subst hin;simp only[aK,E6,E9]at hi;subst hi;refine⟨.inr Y,?_,λg hg=> ?_⟩
   ·simp only[φ',E6];obtain⟨xs',hwn,hl,h1,h2⟩:=hown';exact⟨xs',hwn,Rep.monoL (λb hb _=>⟨hZ fr b hb.1 hb.2,rfl⟩) hl,h1,h2⟩
   ·simp only[φ',E6]at hg;rcases hvr g hg with h|h;·exact .inr ⟨q,_,hq,h,.inr Y⟩
    ·exact .inl h
  ·intro i i' c c' g hi hi' hc hc' _ _;have key: ∀i c,aK (St.mk sl ow nx).f.own (some q) nx (.sl e sz fr rows') i=some c->(i=nx∨i=q)->i=nx:=by
    intro i c hi hc;rcases hc with hc|hc;·exact hc
    ·simp only[aK]at hi;by_cases e:i=nx;·exact e
     ·rw[E4 e,E6 (by rw[hc])]at hi;cases hi
   rw[key i c hi hc,key i' c' hi' hc']
 have hU:(λi=>i<nx∨i=nx)=(· <nx+1):=(by funext i;simp only[eq_iff_iff];omega);rw[hU]at hrel;refine(k.out).out _ _ Q ⟨φ',?_⟩ hQ;rw[hd];refine hrel.put hlt (v:=r) (sv:= .ref nx) (by simp[bg,aE,φ']) (by show nx<nx+1;omega) ?_ slot_put;funext i;simp only[aK,St.f,ak];by_cases e1:nx=i;·subst e1;simp
 ·rw[E4 e1,E4 (Ne.symm e1)];by_cases e2:q=i;·subst e2;simp
  ·rw[E4 e2,E4 (λe=>e2 (E7 e))]
section
variable {K:Ctx}{ops:Array Oper}{o o2:Oper}{rest:List Oper}{sl:List (Nat×SV)}{ow:List (Nat×Option Own)}{nx:Nat}{R:St->Prop}{d:Nat}{t e:TypeId}{x y:Operand}{q:Nat}{fr fy:Bool}{ky:IntKind}{l:List Int}{inf:TypeInfo}
theorem sj {w:World}{Z:Nat->Prop}: ∀{xs:List Int} {vs:List Value},L2 (Rep w Z) vs (xs.map cI).flatten->vs=xs.map (Value.int .i64)
 | [],_,.nil=>rfl
 |x::xs,_,.cons h h2=>by
  cases h;rw[sj (xs:=xs) h2];rfl
theorem rB {w:World}{Z:Nat->Prop}: ∀(xs:List Int),L2 (Rep w Z) (xs.map (Value.int .i64)) (xs.map cI).flatten
 | []=> .nil
 |x::xs=> .cons (.int _ _) (rB xs)
theorem rM {w:World}{Z:Bool->Nat->Prop}{v:Value}(h:w.ownsRow 0 e 1 v l.length (l.map (Value.int .i64))):aA w Z v (.sl e 1 fr (l.map cI)):=
 ⟨l.map (Value.int .i64),by rw[EB];exact h,rB l,λr hr=>by obtain⟨x,_,rfl⟩:=EH.1 hr;rfl,λr hr p hp=>by obtain⟨x,_,rfl⟩:=EH.1 hr;simp[cI]at hp;rw[hp];rfl⟩
theorem pP {w:World}{Z:Bool->Nat->Prop}{v:Value}(h:aA w Z v (.sl e 1 fr (l.map cI))):w.ownsRow 0 e 1 v l.length (l.map (Value.int .i64)):=by
 obtain⟨xs,hrow,hx,_,_⟩:=h;obtain rfl:=sj hx;rwa[EB]at hrow
theorem jq {f:Nat->Option Own}{c2 c:Own}{j:Nat}(hi:aK f (some q) nx c2 j=some c)(hc:j=nx∨j=q):j=nx:=by
 rcases hc with hc|hc;·exact hc
 ·simp only[aK]at hi;by_cases e:j=nx;·exact e
  ·rw[E4 e,E6 (by rw[hc])]at hi;cases hi
theorem J.cut (i:Nat)(ho:o.op= .slice t x none (some y) none)(hg:wants ops (St.mk sl ow nx).f o=some true)(hd:o.dst=some d)(hlt:K.can d=true)(hx:(St.mk sl ow nx).f.get x=some (.ref q))(hq:(St.mk sl ow nx).f.own q=some (.sl e 1 fr (l.map cI)))
  (hy:(St.mk sl ow nx).f.get y=some (.val fy (.int ky (i:Int)))) (hi:i<l.length) (hu:K.P.underlying t=some (.slice e)) (hinf:K.P.info? e=some inf)
  (k:J K ops false rest ⟨(d,.ref nx)::sl,(nx,some (.sl e 1 fr ((l.take i).map cI)))::(q,none)::ow,nx+1⟩ R):J K ops false (o::rest) ⟨sl,ow,nx⟩ R:=by
 refine⟨TO.step hg ?_ k.out⟩;intro a w next Q hr hn
 obtain⟨φ,hφ⟩:=hr;obtain⟨hrx,_⟩:=ah hφ hx;have hrx:a.eval x=φ q:=hrx;obtain⟨hry,_⟩:=ah hφ hy;have hvy:a.eval y= .int ky i:=by
  generalize a.eval y=vy at hry;cases hry;rfl
 have hoq:=hφ.own q _ hq;obtain⟨hln,h⟩:=pP hoq;rcases h with ⟨_,h0⟩|⟨g,cap,cur,hv,hg0,hb,hcap,hmax,hsz,htk⟩;·omega
 have hrun:(execOp a.eval o).run K.P w= .ok (.value (.slice (some ⟨g,0,none⟩) i cap)) w:=by
  have hb2:(Instr.sliceBounds true l.length cap none (some (a.eval y)) none).run K.P w= .ok (0,i,cap) w:=by
   have:(0:Int)<=(i:Int)/\(i:Int)<=(cap:Int):=(by omega);simp only[Instr.sliceBounds,hvy,EM,Ev,EG];rw[run_sliceBound w ky i cap _ this.1 this.2];rfl
  simp only[execOp,ho,hrx,hv,EM,Instr.sliceAt,Instr.slice,run_underlying hu,EG,GP,FJ,hb2,aU hinf];rw[E4 (show¬cap=0 by omega)];simp[bE]
 unfold Oper.wp;rw[hrun];show next (a.put o.dst (.slice (some ⟨g,0,none⟩) i cap)) w
 have htk2:cur.toList.take (i*1)=(l.take i).map (Value.int .i64):=by
  rw[Gp,<-htk,HB,FO (by omega),HU]
 have hvb: ∀b,VB (.slice (some ⟨g,0,none⟩) i cap) b->VB (φ q) b:=λb h=>(by rw[hv];simpa[VB,aC]using h);let φ':Nat->Value:=λj=>if j=nx then .slice (some ⟨g,0,none⟩) i cap else φ j
 have hqx:q<nx:=hφ.inU q _ hq;have hrel:RelW K ⟨(St.mk sl ow nx).f.slot,aK (St.mk sl ow nx).f.own (some q) nx (.sl e 1 fr ((l.take i).map cI))⟩ (λi=>i<nx∨i=nx) φ' a w:=by
  refine hφ.step (λb=>VB (φ q) b) (λi=>i=nx∨i=q) Y (λ_ hu=> .inl hu) (λi hi=>by simp only[φ',E4 (Hr hi)]) rfl rfl rfl (EO _) (λb hb hne=>rfl) ?_ ?_ ?_ ?_
  ·intro b _ hb;exact⟨q,_,hq,hb,.inr Y⟩
  ·intro i c hi hc;simp only[aK]at hi;rw[E4 (λe=>hc (.inl e)),E4 (λe=>hc (.inr (E7 e).symm))]at hi;exact hi
  ·intro i2 c hi2 hc;have hin:i2=nx:=by
    rcases hc with hc|hc;·exact hc
    ·simp only[aK]at hi2;by_cases e:i2=nx;·exact e
     ·rw[E4 e,E6 (by rw[hc])]at hi2;cases hi2
   subst hin;simp only[aK,E6,E9]at hi2;subst hi2;refine⟨.inr Y,?_,λg' hg'=> ?_⟩
   ·simp only[φ',E6];exact rM ⟨by simp,.inr ⟨g,cap,cur,by rw[F0,FO (by omega)],hg0,hb,by simp;omega,hmax,hsz,by rw[F0,FO (by omega)];exact htk2⟩⟩
   ·simp only[φ',E6]at hg';exact .inr ⟨q,_,hq,hvb g' hg',.inr Y⟩
  ·intro i i' c c' g hi hi' hc hc' _ _;rw[jq hi hc,jq hi' hc']
 have hU:(λi=>i<nx∨i=nx)=(· <nx+1):=(by funext i;simp only[eq_iff_iff];omega);rw[hU]at hrel;refine hn _ _ ⟨φ',?_⟩;rw[hd];refine hrel.put hlt (v:= .slice (some ⟨g,0,none⟩) i cap) (sv:= .ref nx) (by simp[bg,aE,φ']) (by show nx<nx+1;omega) ?_ slot_put;funext i;simp only[aK,St.f,ak];by_cases e1:nx=i;·subst e1;simp
 ·rw[E4 e1,E4 (Ne.symm e1)];by_cases e2:q=i;·subst e2;simp
  ·rw[E4 e2,E4 (λe=>e2 (E7 e))]
theorem sQ (g:Nat)(e:TypeId): ∀(vs:List Value) (o:Nat) (w:World) (cur:Array Value),w.heap[g]? =some (.cells cur e (0,0))->o+vs.length<=cur.size->
  ∃cur':Array Value,(w.setCells g o vs).heap[g]? =some (.cells cur' e (0,0))/\cur'.size=cur.size/\cur'.toList=cur.toList.take o++(vs++cur.toList.drop (o+vs.length))/\(w.setCells g o vs).os=w.os/\(w.setCells g o vs).tape=w.tape/\(w.setCells g o vs).output=w.output/\(w.setCells g o vs).heap.size=w.heap.size/\∀b,b≠g->(w.setCells g o vs).heap[b]? =w.heap[b]?
 | [],o,w,cur,hb,_=>⟨cur,hb,rfl,by simp,rfl,rfl,rfl,rfl,λ_ _=>rfl⟩
 |v::vs,o,w,cur,hb,h=>by
  simp only[El]at h;have h1:=heap_setCell_same w g o cur e v hb;obtain⟨cur',a1,a2,a3,a4,a5,a6,a7,a8⟩:=sQ g e vs (o+1) (w.setCell ⟨g,o,none⟩ v) _ h1 (by simp;omega);refine⟨cur',a1,by rw[a2];simp,?_,a4.trans rfl,a5.trans rfl,a6.trans rfl,?_,λb hbn=>(a8 b hbn).trans (heap_setCell_other w _ b _ hbn)⟩
  ·rw[a3];have ho:o<cur.toList.length:=(by simpa using (show o<cur.size by omega));have e1:(cur.setIfInBounds o v).toList=cur.toList.set o v:=(by simp);rw[e1,ED (by simpa using (show o<cur.size by omega)),List.getElem_set_self,List.take_set_of_le (EO _),Hm (by omega)];simp only[F5,Fj,Ff,El];congr 4;omega
  ·exact a7.trans (by simp[World.setCell])
theorem J.clr (i:Nat){args:Array Operand}{tys:Array TypeId}(ho:o.op= .slice t x (some y) none none)(hg:wants ops (St.mk sl ow nx).f o=some true)(hd:o.dst=some d)(hlt:K.can d=true)(hx:(St.mk sl ow nx).f.get x=some (.ref q))(hq:(St.mk sl ow nx).f.own q=some (.sl e 1 fr (l.map cI)))
  (hy:(St.mk sl ow nx).f.get y=some (.val fy (.int ky (i:Int)))) (hi:i<l.length) (hu:K.P.underlying t=some (.slice e)) (hinf:K.P.info? e=some inf) (hs1:inf.size=1) (hz: ∀w,(zeroValue e).run K.P w= .ok (.int .i64 0) w)
  (ho2:o2.op= .call { callee:= .builtin .clear,args:=args,argTypes:=tys }) (ha:args.toList=[.tmp d]) (ht:tys.toList=[t]) (hd2:o2.dst=none) (hg2: ∀u,wants ops (St.mk ((d,.val true (.raw u))::sl) ow nx).f o2=some true)
  (k: ∀u,J K ops false rest ⟨(d,.val true (.raw u))::sl,(q,some (.sl e 1 fr ((l.take i++List.replicate (l.length-i) 0).map cI)))::ow,nx⟩ R):J K ops false (o::o2::rest) ⟨sl,ow,nx⟩ R:=by
 have ea:args= #[.tmp d]:=(by rw[<-FQ (xs:=args),ha]);have et:tys= #[t]:=(by rw[<-FQ (xs:=tys),ht]);subst ea et;refine⟨TO.mk λa w Q hr hQ=> ?_⟩;obtain⟨φ,hφ⟩:=hr;unfold wpList;rw[E6 (aH hφ hg)];refine .inl ?_;obtain⟨hrx,_⟩:=ah hφ hx;have hrx:a.eval x=φ q:=hrx;obtain⟨hry,_⟩:=ah hφ hy;have hvy:a.eval y= .int ky i:=by
  generalize a.eval y=vy at hry;cases hry;rfl
 obtain⟨hln,h⟩:=pP (hφ.own q _ hq);rcases h with ⟨_,h0⟩|⟨g,cap,cur,hv,hg0,hb,hcap,hmax,hsz,htk⟩;·omega
 have hrun:(execOp a.eval o).run K.P w= .ok (.value (.slice (some ⟨g,i,none⟩) (l.length-i) (cap-i))) w:=by
  have hb2:(Instr.sliceBounds true l.length cap (some (a.eval y)) none none).run K.P w= .ok (i,l.length,cap) w:=by
   have:(0:Int)<=(i:Int)/\(i:Int)<=(l.length:Int):=(by omega);simp only[Instr.sliceBounds,hvy,EM,Ev,EG];rw[run_sliceBound w ky i l.length _ this.1 this.2];rfl
  simp only[execOp,ho,hrx,hv,EM,Instr.sliceAt,Instr.slice,run_underlying hu,EG,GP,FJ,hb2,aU hinf];rw[E4 (show¬cap=i by omega)];simp[bE,hs1]
 unfold Oper.wp;rw[hrun];show wpList K.P ops Q (o2::rest) (a.put o.dst (.slice (some ⟨g,i,none⟩) (l.length-i) (cap-i))) w;rw[hd];obtain⟨u,hue⟩: ∃u:Value,u= .slice (some ⟨g,i,none⟩) (l.length-i) (cap-i):=⟨_,rfl⟩;rw[<-hue];have hφ1:RelW K (St.mk ((d,.val true (.raw u))::sl) ow nx).f (· <nx) φ (a.put (some d) u) w:=
  hφ.put hlt (v:=u) (sv:= .val true (.raw u)) (Rep.raw u (by rw[hue];rfl)) trivial Y slot_put
 unfold wpList;rw[E6 (aH hφ1 (hg2 u))];refine .inl ?_;have hsd:(St.mk ((d,.val true (.raw u))::sl) ow nx).f.get (.tmp d)=some (.val true (.raw u)):=by
  show lk ((d,SV.val true (.raw u))::sl) d=_;rw[ak,E6 Y]
 obtain⟨hrd,_⟩:=ah hφ1 hsd;have hvd:(a.put (some d) u).eval (.tmp d)=u:=by
  generalize (a.put (some d) u).eval (.tmp d)=vd at hrd;cases hrd with
  |raw _ _=>rfl
 have hcell: ∀j,i+j<l.length->w.cell? ⟨g,i+j,none⟩=some (.int .i64 (l.getD (i+j) 0))/\w.frozen? ⟨g,i+j,none⟩=false:=λj hj=>by
  refine⟨?_,by simp[World.frozen?,hb]⟩;have h1:(cur.toList.take (l.length*1))[i+j]? =(l.map (Value.int .i64))[i+j]? :=(by rw[htk]);rw[HU,GC hj]at h1;simp only[World.cell?,hb];simp only[Hs,FC,if_false];rw[<-Fq,h1,EJ,E5 hj,E0,E5 hj];rfl
 have hcl:=λty=>Lib.run_clear_slice w t e ty (.int .i64 0) hu hz Y Y g i (l.length-i) (cap-i) (by omega) (λj hj=>by rw[(hcell j (by omega)).1];rfl) (λj hj=>(hcell j (by omega)).2);obtain⟨w',hw'⟩: ∃w',w'=w.setCells g i (List.replicate (l.length-i) (.int .i64 0)):=⟨_,rfl⟩;have hrun2:(execOp (a.put (some d) u).eval o2).run K.P w= .ok (.value (.tuple #[])) w':=by
  simp only[execOp,ho2,resolve,invoke,builtin,EM,Ev,EG,Ha,Ek,Gx,hvd];rw[hue,hcl,hw']<;>rfl
 unfold Oper.wp;rw[hrun2];show wpList K.P ops Q rest ((a.put (some d) u).put o2.dst (.tuple #[])) w';have hput:(a.put (some d) u).put o2.dst (.tuple #[])=a.put (some d) u:=(by rw[hd2];rfl);rw[hput];obtain⟨cur',b1,b2,b3,b4,b5,b6,b7,b8⟩:=sQ g e (List.replicate (l.length-i) (.int .i64 0)) i w cur hb (by simp;omega);rw[<-hw']at b1 b4 b5 b6 b7 b8;refine(k u).out.out _ _ Q ⟨φ,?_⟩ hQ;have hll:(l.take i++List.replicate (l.length-i) (0:Int)).length=l.length:=(by simp;omega);have:=hφ1.turn (w':=w') hq b4 b5 b6 (by rw[b7];exact EO _) (λb' _ hnv=>b8 b' λe=>hnv (.inl (by rw[hv,e];rfl))) (c':= .sl e 1 fr ((l.take i++List.replicate (l.length-i) 0).map cI)) λhz2=>by
  refine rM ⟨by simp,.inr ⟨g,cap,cur',by rw[hll,hv],hg0,b1,by rw[hll];exact hcap,hmax,by rw[b2,hsz],?_⟩⟩;rw[hll,b3,HU];have e1:cur.toList.take i=(l.take i).map (Value.int .i64):=by
   rw[Gp,<-htk,HB,HU,FO (by omega)]
  rw[e1,<-F5,F4,List.map_replicate,GY (by simp;omega),EY (by simp;omega)]
 have e:(St.mk ((d,SV.val true (.raw u))::sl) ((q,some (.sl e 1 fr ((l.take i++List.replicate (l.length-i) 0).map cI)))::ow) nx).f=⟨(St.mk ((d,SV.val true (.raw u))::sl) ow nx).f.slot,λj=>if j=q then some (.sl e 1 fr ((l.take i++List.replicate (l.length-i) 0).map cI))else(St.mk ((d,SV.val true (.raw u))::sl) ow nx).f.own j⟩:=by
  refine EnvF.ext (λ_=>rfl) λj=> ?_;simp only[St.f,ak];by_cases e:q=j;·subst e;simp
  ·rw[E4 e,E4 (Ne.symm e)]
 show RelW K (St.mk _ _ nx).f _ φ _ w';rw[e];exact this
end
theorem Ac {P:Program}{n:Nat}{e:TypeId}{sz:Nat}{rows:List (List PV)}{args:List PV}{w:World}{Z1:Nat->Prop}{v0:Value}{vs:List Value}(hle:args.length+1<=n)(hown:aA w (λ_=>Z1) v0 (.sl e sz true rows))(hz1: ∀b,Z1 b->¬VB v0 b)(hvs:L2 (Rep w λb=> ¬VB v0 b) vs args):
  Rel (Ctx.ofM P w v0 Z1 n) (ji e sz rows args) { tmps:=(v0::vs).toArray++Array.replicate (n-(v0::vs).toArray.size) undef,defers:=[] } w:=by
 have hvl:=hvs.length;have hsl0: ∀s sv,lk ((0,SV.ref 0)::iV 1 args) s=some sv->(s=0/\sv= .ref 0)∨∃j p,s=1+j/\args[j]? =some p/\sv= .val false p:=by
  intro s sv hs;rw[ak]at hs;by_cases e0:0=s;·rw[E6 e0]at hs;exact .inl ⟨e0.symm,(E7 hs).symm⟩
  ·rw[E4 e0]at hs;exact .inr (md args 1 s sv hs)
 have hown0: ∀o c,(ji e sz rows args).f.own o=some c->o=0/\c= .sl e sz true rows:=by
  intro o c ho;simp only[ji,St.f,ak]at ho;by_cases e0:0=o;·rw[E6 e0]at ho;exact⟨e0.symm,(E7 ho).symm⟩
  ·rw[E4 e0]at ho;simp[lk]at ho
 have ht: ∀(j:Nat) v,(v0::vs)[j]? =some v->((v0::vs).toArray++Array.replicate (n-(v0::vs).toArray.size) undef)[j]? =some v:=by
  intro j v hv;have hj:j<(v0::vs).length:=(E8.1 hv).1;rw[GK (by simpa using hj)];simpa using hv
 have htd: ∀(j:Nat) v,(v0::vs)[j]? =some v->((v0::vs).toArray++Array.replicate (n-(v0::vs).toArray.size) undef).getD j undef=v:=λj v h=>(by rw[F8,ht j v h];rfl);have hZ: ∀b,¬VB v0 b->Zf (Ctx.ofM P w v0 Z1 n) (ji e sz rows args).f (λ_=>v0) false b:=λb hb=>⟨⟨.inr hb,λo c ho=>hb⟩,λe=>by cases e⟩;have hZ1: ∀b,Z1 b->Zf (Ctx.ofM P w v0 Z1 n) (ji e sz rows args).f (λ_=>v0) true b:=λb hb=>⟨⟨.inr (hz1 b hb),λo c ho=>hz1 b hb⟩,λ_=> .inr hb⟩;refine⟨λ_=>v0,rfl,?_,?_,⟨rfl,rfl,rfl,EO _,λ_ _ _=>rfl⟩,?_,?_,?_,?_,?_,?_⟩;·simp[Ctx.ofM];omega
 ·intro s v hs hv;have hs:s<1:=hs;obtain rfl:s=0:=(by omega);have hv: [v0][0]? =some v:=hv;exact ht 0 v (by simpa using hv)
 ·intro o c ho;obtain⟨rfl,rfl⟩:=hown0 o c ho;exact aA.mono (Z:=λ_=>Z1) (c:= .sl e sz true rows) hown (λ_ _=>rfl) λf b hb _=>⟨by
   obtain⟨h1,h2⟩:=hZ1 b hb;exact⟨h1,λ_=>h2 Y⟩,rfl⟩
 ·intro o c g ho hg;exact .inr hg
 ·intro o c ho;obtain⟨rfl,_⟩:=hown0 o c ho;exact HP
 ·intro o o' c c' g ho ho' _ _;rw[(hown0 o c ho).1,(hown0 o' c' ho').1]
 ·intro s sv hs;rcases hsl0 s sv hs with ⟨rfl,rfl⟩|⟨j,p,rfl,hp,rfl⟩;·exact⟨v0,htd 0 v0 Y,rfl⟩
  ·obtain⟨v,hv,hr⟩:=hvs.get hp;exact⟨v,htd (1+j) v (by rw[GF];simpa using hv),Rep.mono (λb hb _=>⟨hZ b hb,rfl⟩) hr⟩
 ·intro s sv hs;rcases hsl0 s sv hs with ⟨rfl,rfl⟩|⟨j,p,rfl,hp,rfl⟩;·exact HP
  ·trivial
def Ef (fn:Func)(e:TypeId)(sz:Nat)(rows':List (List PV))(x:Exit)(E:St):Prop:=
 match x with
 | .normal| .ret=> ∃s q,fn.results.toList=[.tmp s]/\E.f.slot s=some (.ref q)/\E.f.own q=some (.sl e sz true rows')
 |_=>False
theorem SpecP.body {P:Program} {f:FuncId} {fn:Func} {c:Code} {e:TypeId} {sz:Nat} {rows rows':List (List PV)} {args:List PV} (hf:P.funcs[f]? =some fn) (hb:fn.body=some c) (hn:(fn.name== "runtime.NumGoroutine")=false) (hl:Nat.ble (args.length+1) fn.ntmps=true)
  (hflat: ∀r∈rows',∀p∈r,p.flat=true) (h: ∀w0 v0 Z1,T (Ctx.ofM P w0 v0 Z1 fn.ntmps) c (ji e sz rows args) (Ef fn e sz rows')):SpecP P f [] [] e sz rows args rows':=by
 refine⟨⟨fn,hf,by rw[hb];rfl,hn⟩,λw Z1 v0 vs hown hz1 _ _ _ hvs0=> ?_⟩;have hvs:L2 (Rep w λb=> ¬VB v0 b) vs args:=hvs0.imp λ_ _ h=>h.mono λb hb _=>⟨hb.1,rfl⟩;have hle:=F3 hl;have hvl:=hvs.length;refine calls_of_wp hf hb ?_;have hrel:=Ac (P:=P) (n:=fn.ntmps) hle hown hz1 hvs;refine wp_mono ((h w v0 Z1).out _ w hrel) λx a w' ⟨hfe,E,hq,φ,hφ⟩=> ?_;have key:(∃s q,fn.results.toList=[.tmp s]/\E.f.slot s=some (.ref q)/\E.f.own q=some (.sl e sz true rows'))->a.defers=[]/\∃v,(results fn a.tmps).run P w'= .ok v w'/\∃r:Value,Ending.returned v= .returned r/\
   w'.os=w.os/\w'.tape=w.tape/\w'.output=w.output/\w.heap.size<=w'.heap.size/\(∀b,b<w.heap.size->¬VB v0 b->w'.heap[b]? =w.heap[b]?)/\
   aA w' (λ_ b=>Z1 b/\¬VB r b) r (.sl e sz true rows')/\∀g,VB r g->VB v0 g∨w.heap.size<=g:=by
  rintro⟨s,q,hres,hq1,hq2⟩;have hk:=hφ.kept;obtain⟨v,hv,hvr⟩:=hφ.slot s _ hq1;have hvr:v=φ q:=hvr;refine⟨hφ.df,φ q,?_,φ q,rfl,hk.os,hk.tape,hk.output,hk.size,λb hb hne=>hk.block b hb hne,?_,λg hg=> ?_⟩
  ·have er:fn.results= #[.tmp s]:=(by rw[<-FQ (xs:=fn.results),hres]);have hrv:(cE a.tmps (.tmp s)).run P w'= .ok (φ q) w':=by
    simp only[cE,Ev,hv,hvr]
   have e:results fn a.tmps=(do let vs<-fn.results.mapM (cE a.tmps);pure (if h:vs.size=1 then vs[0]else .tuple vs)):=by
    unfold results;congr
   have h1':(fn.results.toList.mapM (cE a.tmps)).run P w'= .ok [φ q] w':=by
    rw[hres];simp only[Gf,List.mapM_nil,EM,hrv,EG,Ev]
   rw[e,GR];simp only[EM,Hy,h1',EG];rfl
  ·obtain⟨xs,hrow,hx,h1,h2⟩:=hφ.own q _ hq2;exact⟨xs,hrow,L2.ofGet hx.length λi u c hu hc=>(by
    obtain⟨u',h3,h4⟩:=hx.get hc;rw[hu]at h3;cases h3;exact h4:Rep w' _ u c).flat (by
    obtain⟨r,hr,hp⟩:=Gq.1 (EC hc);exact hflat r hr c hp),h1,h2⟩
  ·rcases hφ.mine q _ g hq2 hg with h1|h1;·exact .inr h1
   ·exact .inl h1
 cases x<;>first
  |exact key hq
  |exact hq.elim
section
variable {K:Ctx}{ops:Array Oper}{dr:Bool}{o:Oper}{rest:List Oper}{sl:List (Nat×SV)}{ow:List (Nat×Option Own)}{nx:Nat}{R:St->Prop}{d:Nat}
theorem Rel.nilO (g:Nat)(e:TypeId)(sz:Nat)(hg:true=true)(a:Act)(w:World)(h:Rel K ⟨sl,ow,nx⟩ a w):
  Rel K ⟨(g,.eq (.slice none 0 0) nx)::sl,(nx,some (.sl e sz true []))::ow,nx+1⟩ a w:=by
 obtain⟨φ,hφ⟩:=h;have hadd:=hφ.add (Below.refl _ _) nx [.sl e sz true []] [.slice none 0 0] (λi h1 _ h3=>EX h3 (IG.2 h1)) Y (λi c v hc hv=>by
  cases i with
  |zero=>
   simp at hc hv;subst hc hv;exact⟨⟨[],World.ownsRow_nil w 0 e sz,.nil,by simp,by simp⟩,λg hg=>by simp[VB,aC]at hg⟩
  |succ i=>simp at hc) (λi j v v' g hi hj hv _=>by cases i<;>cases j<;>simp_all)
 have hU:eQ (· <nx) nx [.sl e sz true []]=(· <nx+1):=(by funext i;simp only[eQ,eq_iff_iff,FY];omega);have h2:RelW K (St.mk sl ((nx,some (.sl e sz true []))::ow) (nx+1)).f (· <nx+1) (bQ φ nx [.slice none 0 0]) a w:=by
  have:=tO sl ow nx (nx+1) [.sl e sz true []];simp only[c6]at this;rw[this,<-hU];exact hadd
 obtain⟨v,hv⟩:=e6 h2 hg;exact⟨_,h2.reslot (s:=g) (sv:= .eq (.slice none 0 0) nx) hv (by simp[bg,aE,bQ]) (Fd nx) rfl slot_put⟩
theorem T.nilO {c:Code}{Q:Exit->St->Prop}(g:Nat)(e:TypeId)(sz:Nat)(hg:true=true)(k:T K c ⟨(g,.eq (.slice none 0 0) nx)::sl,(nx,some (.sl e sz true []))::ow,nx+1⟩ Q):T K c ⟨sl,ow,nx⟩ Q:=T.sub (Rel.nilO g e sz hg) k
theorem J.bz {t:TypeId}{parts:Array (Nat×Operand)}{fs:Array Field}{inf:TypeInfo}{z:Value}{zs cs:List PV}{f:Bool}{ps:List (Nat×PV)}{pl:List (Nat×Nat)}(zs0:List PV)(hzs:zs0=zs)(ho:o.op= .build t parts)(hg:wants ops (St.mk sl ow nx).f o=some true)(hd:o.dst=some d)(hlt:K.can d=true)
  (hu:K.P.underlying t=some (.struct fs)) (hi:K.P.info? t=some inf) (hz:inf.zero=some z) (hzr: ∀(w:World) (Z:Nat->Prop),L2 (Rep w Z) z.cells.toList zs) (h1: ∀p∈zs,p.one=true) (hps:fQ (St.mk sl ow nx).f parts.toList=some (f,ps)) (hpl:lX K.P fs=some pl) (hcs:nu pl zs ps=some cs)
  (k:J K ops false rest ⟨(d,.val f (.agg cs))::sl,ow,nx⟩ R):J K ops false (o::rest) ⟨sl,ow,nx⟩ R:=by
 refine⟨TO.step hg ?_ k.out⟩;intro a w next Q hr hn
 obtain⟨φ,hφ⟩:=hr;obtain⟨cells',hfill,h3,h4⟩:=lz ps _ _ zs cs (jz hφ parts.toList f ps hps) (hzr w _) h1 hcs;have hrun:(Instr.build t (parts.map λ(i,x)=>(i,a.eval x))).run K.P w= .ok (.agg cells') w:=by
  refine run_build w t _ cells' ?_;simp only[Program.built,hi,hu,hz];have:fs.toList.mapM (λf=>(K.P.info? f.type).map λi=>(f.offset,i.size))=some pl:=hpl;simp only[this];rw[<-hfill];simp
 have hrun2:(execOp a.eval o).run K.P w= .ok (.value (.agg cells')) w:=by
  simp only[execOp,ho,EM,hrun,EG,Ev]
 unfold Oper.wp;rw[hrun2];show next (a.put o.dst (.agg cells')) w
 rw[hd];refine hn _ _ ⟨φ,hφ.put hlt (v:= .agg cells') (sv:= .val f (.agg cs)) ?_ trivial Y slot_put⟩;have:(Value.agg cells')= .agg cells'.toList.toArray:=(by simp);rw[this];exact Rep.agg _ _ h3 h4
theorem Rel.meltB {a:Act}{w:World}{i qc q g:Nat}{e:TypeId}{sz:Nat}{frc fr:Bool}{cs:List PV}{u:Value}{rows:List (List PV)}(hM: ∀b,¬K.M b)(hc:(St.mk sl ow nx).f.own qc=some (.box frc cs))(hi:cs[i]? =some (.raw u))(hg:lk sl g=some (.eq u q))(ho:(St.mk sl ow nx).f.own q=some (.sl e sz fr rows))(hne:Nat.beq q qc=false)(h:Rel K ⟨sl,ow,nx⟩ a w):
  Rel K ⟨sl,(qc,some (.box (frc&&fr) (cs.set i (.sl rows))))::(q,none)::ow,nx⟩ a w:=by
 obtain⟨φ,hφ⟩:=h;have hne':q≠qc:=λe=>(by subst e;simp at hne);obtain⟨_,_,he⟩:=hφ.slot g _ hg;have he:φ q=u:=he;have hown': ∀i c,(St.mk sl ((q,none)::ow) nx).f.own i=some c->i≠q/\(St.mk sl ow nx).f.own i=some c:=by
  intro i c hq;simp only[St.f,ak]at hq;by_cases e:q=i;·rw[E6 e]at hq;cases hq
  ·rw[E4 e]at hq;exact⟨Ne.symm e,hq⟩
 have hZ: ∀f b,Zf K (St.mk sl ow nx).f φ f b->Zf K (St.mk sl ((q,none)::ow) nx).f φ f b:=
  λf b hb=>⟨⟨hb.1.1,λi c hq=>hb.1.2 i c (hown' i c hq).2⟩,hb.2⟩
 have h1:RelW K (St.mk sl ((q,none)::ow) nx).f (· <nx) φ a w:=by
  refine⟨hφ.df,hφ.sz,hφ.old,hφ.kept,?_,?_,?_,?_,?_,hφ.sin⟩
  ·intro i c hq;exact(hφ.own i c (hown' i c hq).2).mono (λ_ _=>rfl) λf b hb _=>⟨hZ f b hb,rfl⟩
  ·intro i c g hq;exact hφ.mine i c g (hown' i c hq).2
  ·intro i c hq;exact hφ.inU i c (hown' i c hq).2
  ·intro i i' c c' g hq hq';exact hφ.dis i i' c c' g (hown' i c hq).2 (hown' i' c' hq').2
  ·intro t sv h;obtain⟨v,hv,hr⟩:=hφ.slot t sv h;exact⟨v,hv,hr.mono (hφ.sin t sv h) (λf b hb _=>⟨hZ f b hb,rfl⟩) (λ_ _=>rfl)⟩
 have hfz:Rep w (Zf K (St.mk sl ((q,none)::ow) nx).f φ fr) u (.sl rows):=by
  rw[<-he];obtain⟨xs,hwn,hxl,h2,h3⟩:=hφ.own q _ ho;have hl':L2 (Rep w (Zf K (St.mk sl ((q,none)::ow) nx).f φ fr)) xs rows.flatten:=Rep.monoL (λb hb _=>⟨hZ fr b hb,rfl⟩) hxl;have hcell:=λg hg=>hwn.cells (g:=g) hg;have hlt:=hwn.lt;rcases hwn.2 with ⟨hv0,hn⟩|⟨g,cap,cur,hv0,_,hgc,hnc,hcm,_⟩
  ·rw[hv0];have:rows=[]:=EQ hn;subst this;exact .nilsl
  ·have hvbp:VB (φ q) g:=(by rw[hv0];exact .inl Y);have hm:=hφ.mine q _ g ho hvbp;have hge:K.w0.heap.size<=g:=hm.resolve_right (hM g);rw[hv0]at hcell hlt⊢;refine .sl g 0 cap sz rows xs ⟨⟨.inl hge,λi c hq hvq=> ?_⟩,λ_=>K.hF _ hge⟩ (hlt g Y).2 h2 h3 (λj v hj=> ?_) hnc hcm hl'
   ·obtain⟨hne,hq'⟩:=hown' i c hq;exact hne (hφ.dis i q c _ g hq' ho hvq hvbp)
   ·have:=hcell g Y j v hj;rw[bE]at this;exact ce hgc this
 have hc':(St.mk sl ((q,none)::ow) nx).f.own qc=some (.box frc cs):=by
  simp only[St.f,ak];rw[E4 hne'];exact hc
 refine⟨φ,h1.reown hc' ?_⟩;obtain⟨g2,t,cur,hv,hb,hl,h3⟩:=h1.own qc _ hc';refine⟨g2,t,cur,hv,hb,L2.ofGet (by rw[FA];exact hl.length) λj v p hj hp=> ?_,λp hp=> ?_⟩
 ·by_cases e:i=j
  ·subst e;have hil:=(E8.1 hi).1;rw[F2 hil]at hp;cases hp;obtain⟨p',hp',hr⟩:=hl.getl hj;rw[hi]at hp';cases hp';cases hr;exact hfz.weak (by simp)
  ·rw[Et e]at hp;obtain⟨p',hp',hr⟩:=hl.getl hj;rw[hp]at hp';cases hp';exact hr.weak (by simp;intro a _;exact a)
 ·rcases EV hp with hp|rfl;·exact h3 p hp
  ·rfl
end
def DG {σ:Type}(Es:σ->St)(e:Exit)(E:St):Prop:=e= .normal/\∃(s:σ) (keep os:List Nat),dup (iu E.f os)=false/\lD E keep os=Es s
theorem T.mids {σ:Type}{K:Ctx}{x y:Code}{E:St}{Q:Exit->St->Prop}(Es:σ->St)(hx:T K x E (DG Es))(hy: ∀s,T K y (Es s) Q):T K (.seq x y) E Q:=by
 refine .seq (hx.mono ?_);rintro e E2 ⟨rfl,s,keep,os,hd,he⟩;have:=hy s;rw[<-he]at this;exact T.canon hd this
section
variable {K:Ctx}{ops:Array Oper}{dr:Bool}{o:Oper}{rest:List Oper}{sl:List (Nat×SV)}{ow:List (Nat×Option Own)}{nx:Nat}{R:St->Prop}{d:Nat}
theorem J.xs {t:TypeId}{x i:Operand}{f1 f2:Bool}{s:ByteArray}{ki:IntKind}{n:Int}{b:UInt8}(ho:o.op= .index t x i)(hg:wants ops (St.mk sl ow nx).f o=some true)(hd:o.dst=some d)(hlt:K.can d=true)(hx:(St.mk sl ow nx).f.get x=some (.val f1 (.str s)))(hi:(St.mk sl ow nx).f.get i=some (.val f2 (.int ki n)))
  (hu:K.P.underlying t=some .string) (h0:0<=n) (hb:s[n.toNat]? =some b) (k:J K ops dr rest ⟨(d,.val true (.int .u8 b.toNat))::sl,ow,nx⟩ R):J K ops dr (o::rest) ⟨sl,ow,nx⟩ R:=by
 refine .does hg hd hlt (.gen (xs:=[x,i]) (l:=[.str s,.int ki n]) ?_ ?_ ?_) k;·rw[ho];simp[Op.operands]
 ·simp[dB,hx,hi,SV.ff]
 ·intro a w hr;cases hr with
  |cons h1 hr=>
  cases hr with
  |cons h2 _=>
  generalize hv1:a.eval x=v1 at h1;generalize hv2:a.eval i=v2 at h2;cases h1;cases h2;refine⟨.int .u8 b.toNat,?_,λ_=> .int _ _⟩;simp only[execOp,ho,hv1,hv2,Instr.index,asIntOf,EM,Ev,EG,run_underlying hu,E6 h0,hb]
theorem J.ss {t:TypeId}{x y:Operand}{f1 f2:Bool}{s:ByteArray}{ky:IntKind}{h:Int}(n:Nat)(ho:o.op= .slice t x none (some y) none)(hg:wants ops (St.mk sl ow nx).f o=some true)(hd:o.dst=some d)(hlt:K.can d=true)(hx:(St.mk sl ow nx).f.get x=some (.val f1 (.str s)))(hy:(St.mk sl ow nx).f.get y=some (.val f2 (.int ky h)))
  (hu:K.P.underlying t=some .string) (hh:h=(n:Nat)) (hn:n<=s.size) (k:J K ops dr rest ⟨(d,.val true (.str (s.extract 0 n)))::sl,ow,nx⟩ R):J K ops dr (o::rest) ⟨sl,ow,nx⟩ R:=by
 subst hh;refine .does hg hd hlt (.gen (xs:=[x,y]) (l:=[.str s,.int ky n]) ?_ ?_ ?_) k;·rw[ho];simp[Op.operands]
 ·simp[dB,hx,hy,SV.ff]
 ·intro a w hr;cases hr with
  |cons h1 hr=>
  cases hr with
  |cons h2 _=>
  generalize hv1:a.eval x=v1 at h1;generalize hv2:a.eval y=v2 at h2;cases h1;cases h2;refine⟨.string (s.extract 0 n),?_,λ_=> .str _⟩;have hb2:(Instr.sliceBounds false s.size s.size none (some (.int ky n)) none).run K.P w= .ok (0,n,s.size) w:=by
   simp only[Instr.sliceBounds,EM,Ev,EG];rw[run_sliceBound w ky n s.size _ (by omega) (by omega)];rfl
  simp only[execOp,ho,hv1,hv2,EM,Instr.sliceAt,Instr.slice,run_underlying hu,EG,GP,FJ,Hs,FC,if_false,hb2,Ev]
theorem J.adf {args:Array Operand}{tys:Array TypeId}{s y:Operand}{t e:TypeId}{q sz:Nat}{fr fy:Bool}{rows rows2:List (List PV)}{sy:SV}{inf:TypeInfo}{z:Value}(hM: ∀b,¬K.M b)
  (ho:o.op= .call { callee:= .builtin .append,args:=args,argTypes:=tys }) (ha:args.toList=[s,y]) (ht:tys.toList=[t,t]) (hg:wants ops (St.mk sl ow nx).f o=some true) (hd:o.dst=some d) (hlt:K.can d=true)
  (hs:(St.mk sl ow nx).f.get s=some (.ref q)) (hq:(St.mk sl ow nx).f.own q=some (.sl e sz fr rows)) (hy:(St.mk sl ow nx).f.get y=some sy) (hp:(St.mk sl ow nx).f.pvf sy=some (fy,.sl rows2))
  (hu:K.P.underlying t=some (.slice e)) (hi:K.P.info? e=some inf) (hsz:inf.size=sz) (hz:inf.zero=some z) (hzs:z.cells.size=sz) (h0:Nat.blt 0 sz=true) (hb1:Nat.ble 1 inf.bytes=true)
  (hl2: ∀r∈rows2,r.length=sz) (hby:(rows.length+rows2.length)*inf.bytes<=140737488355328)
  (k:J K ops true rest ⟨(d,.val (fr&&fy) (.sl (rows++rows2)))::sl,(q,none)::ow,nx⟩ R):J K ops true (o::rest) ⟨sl,ow,nx⟩ R:=by
 obtain⟨E',h1,h2⟩:=k.out;refine⟨E',?_,h2⟩;have hro:RO K ops (St.mk sl ow nx).f o ⟨some d,.val (fr&&fy) (.sl (rows++rows2)),[],nx,some (q,none)⟩:= .appf hg hd hlt hM (.own ho ha ht hs hq hy hp hu hi hsz hz hzs (by simpa[Gc]using h0) (F3 hb1) hl2 hby);refine TD.step (r:=⟨some d,.val (fr&&fy) (.sl (rows++rows2)),[],nx,some (q,none)⟩) hro ?_;have e1:upd (St.mk sl ow nx).f ⟨some d,.val (fr&&fy) (.sl (rows++rows2)),[],nx,some (q,none)⟩=(St.mk ((d,.val (fr&&fy) (.sl (rows++rows2)))::sl) ((q,none)::ow) nx).f:=by
  refine EnvF.ext (λs=> ?_) (λi=> ?_);·simp only[upd,St.f,ak,E9]
  ·simp only[upd,St.f,ak];by_cases e1:i=q;·rw[E6 e1,E6 e1.symm];rfl
   ·rw[E4 e1,E4 (Ne.symm e1)];exact cK _ _ _
 rw[e1];exact h1
end
def Zx (w:World)(Z:Bool->Nat->Prop)(us:List Value)(f:Bool)(b:Nat):Prop:=(Z f b∨w.heap.size<=b)/\Off us b
def sW (w:World)(Z:Bool->Nat->Prop)(us gs:List Value)(cs':List Value->List Own)(news:List Value->List Own)(rf:Bool)(res:List Value->List PV)(x:Ending)(w':World):Prop:=
 ∃rs ns:List Value,x= .returned (mR rs)/\w'.os=w.os/\w'.tape=w.tape/\w'.output=w.output/\w.heap.size<=w'.heap.size/\(∀b,b<w.heap.size->Off (us++gs) b->w'.heap[b]? =w.heap[b]?)/\
  L2 (aA w' (Zx w Z (us++ns))) us (cs' ns)/\L2 (aA w' (Zx w Z (us++ns))) ns (news ns)/\(∀u g,u∈ns->VB u g->w.heap.size<=g∨∃v,v∈gs/\VB v g)/\ib (us++ns)/\L2 (Rep w' (Zx w Z (us++ns) rf)) rs (res ns)
structure PreX (w:World)(Z:Bool->Nat->Prop)(us gs:List Value)(cs ds:List Own)(args:List (Bool×PV))(vs:List Value):Prop where
 tf: ∀b,Z true b->Z false b
 own1:L2 (aA w Z) us cs
 own2:L2 (aA w Z) gs ds
 ap:ib (us++gs)
 off: ∀b,Z false b->Off (us++gs) b
 args:L2 (λv p=>Rep w (Z p.1) v p.2) vs args
structure SpecX (P:Program)(f:FuncId)(us gs:List Value)(cs ds:List Own)(args:List (Bool×PV))(cs':List Value->List Own)(news:List Value->List Own)(rf:Bool)(res:List Value->List PV):Prop where
 isFn: ∃fn,P.funcs[f]? =some fn/\fn.body.isSome=true/\(fn.name== "runtime.NumGoroutine")=false
 out: ∀(w:World) (Z:Bool->Nat->Prop) (vs:List Value),PreX w Z us gs cs ds args vs->Calls P f vs.toArray w (sW w Z us gs cs' news rf res)
def Ctx.ofX (P:Program)(w0:World)(us gs:List Value)(Z:Bool->Nat->Prop)(n:Nat):Ctx:=⟨P,w0,Z false,λb=> ∃u,u∈us++gs/\VB u b,n,λb=>w0.heap.size<=b∨Z true b,λ_ h=> .inl h,0,[],[]⟩
def mo:Nat->List (Bool×PV)->List (Nat×SV)
 |_,[]=>[]
 |k,p::ps=>(k,.val p.1 p.2)::mo (k+1) ps
def pQ:Nat->List Own->List (Nat×Option Own)
 |_,[]=>[]
 |i,c::cs=>(i,some c)::pQ (i+1) cs
def n4 (gl:List Nat)(us gs:List Value)(cs ds:List Own)(args:List (Bool×PV)):St:=⟨mo 0 args++x3 0 gl (us++gs),pQ 0 (cs++ds),(cs++ds).length⟩
def kU (E:EnvF):List Nat->List Value->List Own->List Nat->Prop
 |g::gs,u::us,c::cs,q::qs=>E.slot g=some (.eq u q)/\(∃c2,E.own q=some c2/\c2.reg c.fr=c/\(!c.fr||c2.fr)=true)/\kU E gs us cs qs
 | [],[],[],[]=>True
 |_,_,_,_=>False
def q9 (P:Program)(fn:Func)(us:List Value)(gl:List Nat)(cs':List Value->List Own)(news:List Value->List Own)(hs:List Nat)(rf:Bool)(res:List Value->List PV)(x:Exit)(E:St):Prop:=
 match x with
 | .normal| .ret=> ∃(qs rs:List Nat) (ns:List Value),kU E.f (gl.take us.length) us (cs' ns) qs/\kU E.f hs ns (news ns) rs/\dup (qs++rs)=false/\Ret P E.f (!rf) fn.results.toList ((res ns).map .val) []
 |_=>False
theorem mY {w:World}{Z Z':Bool->Nat->Prop}{u:Value}{c c2:Own}(h:aA w Z u c2)(e:c2.reg c.fr=c)(hf:(!c.fr||c2.fr)=true)(tf: ∀b,Z true b->Z false b)(hz: ∀b,Z c.fr b->Z' c.fr b):aA w Z' u c:=by
 have h1:aA w (λ_=>Z c.fr) u c2:=pO h λb hb=>by
  cases hc:c.fr with
  |true=>rw[hc]at hf;simp at hf;rw[hf]at hb;exact hb
  |false=>
   cases hc2:c2.fr with
   |true=>rw[hc2]at hb;exact tf b hb
   |false=>rw[hc2]at hb;exact hb
 have h2:=ip (Zb:=Z') (f:=c.fr) h1 hz;rwa[e]at h2
theorem qa: ∀(ps:List (Bool×PV)) (k s:Nat) (sv:SV),lk (mo k ps) s=some sv->∃j p,s=k+j/\ps[j]? =some p/\sv= .val p.1 p.2
 | [],k,s,sv,h=>by simp[mo,lk]at h
 |p::ps,k,s,sv,h=>by
  simp only[mo,ak]at h;by_cases e:k=s
  ·rw[E6 e]at h;obtain rfl:=E7 h;exact⟨0,p,by omega,by simp,rfl⟩
  ·rw[E4 e]at h;obtain⟨j,q,h1,h2,h3⟩:=qa ps (k+1) s sv h;exact⟨j+1,q,by omega,by simpa using h2,h3⟩
theorem r4: ∀(cs:List Own) (i o:Nat) (c:Own),(lk (pQ i cs) o).join=some c->∃j,o=i+j/\cs[j]? =some c
 | [],i,o,c,h=>by simp[pQ,lk]at h
 |c0::cs,i,o,c,h=>by
  simp only[pQ,ak]at h;by_cases e:i=o
  ·rw[E6 e]at h;exact⟨0,by omega,by simpa using h⟩
  ·rw[E4 e]at h;obtain⟨j,h1,h2⟩:=r4 cs (i+1) o c h;exact⟨j+1,by omega,by simpa using h2⟩
theorem iv {E:EnvF}: ∀{gs:List Nat} {us:List Value} {cs:List Own} {qs:List Nat},kU E gs us cs qs->(us.length=cs.length/\qs.length=cs.length)/\∀(i:Nat) (q:Nat),qs[i]? =some q->∃u c c2 g,us[i]? =some u/\cs[i]? =some c/\E.own q=some c2/\c2.reg c.fr=c/\(!c.fr||c2.fr)=true/\E.slot g=some (.eq u q)
 |g::gs,u::us,c::cs,q::qs,h=>by
  obtain⟨h1,⟨c2,h2,h2a,h2b⟩,h3⟩:=h;obtain⟨⟨h4,h5⟩,h6⟩:=iv h3;refine⟨⟨by simp[h4],by simp[h5]⟩,λi p hp=> ?_⟩;cases i with
  |zero=>simp at hp;subst hp;exact⟨u,c,c2,g,rfl,rfl,h2,h2a,h2b,h1⟩
  |succ i=>simp at hp;simpa using h6 i p hp
 | [],[],[],[],_=>⟨⟨rfl,rfl⟩,λi q hq=>by simp at hq⟩
theorem pA {K:Ctx}{E:EnvF}{U:Nat->Prop}{φ:Nat->Value}{a:Act}{w:World}{rf:Bool}(h:RelW K E U φ a w): ∀{rs:List ResultVar} {res:List PV},Ret K.P E (!rf) rs (res.map .val) []->
  ∃ws:List Value,(rs.mapM (cE a.tmps)).run K.P w= .ok ws w/\L2 (Rep w (Zf K E φ rf)) ws res
 | [],[],_=>⟨[],rfl,.nil⟩
 |_::rs,p::res,hr=>by
  have hstep: ∀{t:ResultVar},(∃v,(cE a.tmps t).run K.P w= .ok v w/\Rep w (Zf K E φ rf) v p)->Ret K.P E (!rf) rs (res.map .val) []->∃ws:List Value,((t::rs).mapM (cE a.tmps)).run K.P w= .ok ws w/\L2 (Rep w (Zf K E φ rf)) ws (p::res):=by
   rintro t ⟨v,hv,hrep⟩ hrest;obtain⟨ws,h1,h2⟩:=pA h hrest;refine⟨v::ws,?_,.cons hrep h2⟩;simp only[Gf,EM,hv,EG,h1,Ev]
  have hz: ∀fr:Bool,((!rf)=false->fr=true)->∀b,Zf K E φ fr b->Zf K E φ rf b:=λfr hf b hb=>⟨hb.1,λe=>hb.2 (hf (by rw[e];rfl))⟩;cases hr with
  | @val t sv fr _ _ _ _ hs hff hfr hrest=>
   have hx:E.get (.tmp t)=some sv:=hs;exact hstep ⟨_,by simp only[cE,Ev];rfl,Rep.mono (λb hb _=>⟨hz fr hfr b hb,rfl⟩) (bK h hx hff)⟩ hrest
  | @cell t ty q fr row _ _ _ _ hs hq hp hfr hrest=>
   refine hstep ?_ hrest;obtain⟨v,hv,g,hg,e⟩:=h.slot t _ hs;have hat:(Own.box fr row).at_ 0 0 0=some (fr,row):=rfl;have hc:=jZ (h.own q _ hq) hat hg;obtain⟨u,hu,hrep⟩:=gz hc hp;refine⟨u,?_,Rep.mono (λb hb _=>⟨hz fr hfr b hb,rfl⟩) hrep⟩;have e2:a.tmps.getD t undef= .pointer (some ⟨g,0,none⟩):=by
    rw[hv,e]
   simp only[cE,e2,asAddr,EM,Ev,EG];simpa[Instr.loadAt,Instr.sureAddr]using hu
 | [],_::_,hr=>by cases hr
 |_::_,[],hr=>by cases hr
theorem PreX.rel {P:Program}{n:Nat}{us gs:List Value}{cs ds:List Own}{args:List (Bool×PV)}{w:World}{Z:Bool->Nat->Prop}{vs:List Value}(gl:List Nat)(h:PreX w Z us gs cs ds args vs)(hl:args.length<=n):
  Rel (Ctx.ofX P w us gs Z n) (n4 gl us gs cs ds args) { tmps:=vs.toArray++Array.replicate (n-vs.toArray.size) undef,defers:=[] } w:=by
 obtain⟨tf,hus,hgs,hap,hoff,hvs⟩:=h;have hown:=hus.append hgs;have hvl:=hvs.length;have hul:=hown.length;let φ0:Nat->Value:=λi=>(us++gs).getD i undef;have hφ0: ∀j u,(us++gs)[j]? =some u->φ0 j=u:=λj u hu=>(by simp[φ0,E0,hu]);have hown0: ∀o c,(n4 gl us gs cs ds args).f.own o=some c->∃u,(cs++ds)[o]? =some c/\(us++gs)[o]? =some u/\φ0 o=u/\aA w Z u c:=by
  intro o c ho;obtain⟨j,h1,h2⟩:=r4 (cs++ds) 0 o c ho;obtain rfl:o=j:=(by omega);obtain⟨u,hu,hr⟩:=hown.get h2;exact⟨u,h2,hu,hφ0 _ _ hu,hr⟩
 have hoffo: ∀b,Off (us++gs) b->∀o c,(n4 gl us gs cs ds args).f.own o=some c->¬VB (φ0 o) b:=by
  intro b hb o c ho;obtain⟨u,_,hu,e,_⟩:=hown0 o c ho;rw[e];exact hb u (EC hu)
 have hz: ∀f b,Z f b->Zf (Ctx.ofX P w us gs Z n) (n4 gl us gs cs ds args).f φ0 f b:=λf b hb=>by
  have h0:Z false b:=by
   cases f with
   |false=>exact hb
   |true=>exact tf b hb
  exact⟨⟨.inr h0,hoffo b (hoff b h0)⟩,λe=>by subst e;exact .inr hb⟩
 have hsz:(vs.toArray++Array.replicate (n-vs.toArray.size) undef).size=n:=(by simp;omega);have ht: ∀(j:Nat) v,vs[j]? =some v->(vs.toArray++Array.replicate (n-vs.toArray.size) undef)[j]? =some v:=by
  intro j v hv;have hj:j<vs.length:=(E8.1 hv).1;rw[GK (by simpa using hj)];simpa using hv
 have htd: ∀(j:Nat) v,vs[j]? =some v->(vs.toArray++Array.replicate (n-vs.toArray.size) undef).getD j undef=v:=λj v h=>(by rw[F8,ht j v h];rfl);refine⟨φ0,rfl,hsz,λs v hs=>EX hs (FK s),⟨rfl,rfl,rfl,EO _,λ_ _ _=>rfl⟩,?_,?_,?_,?_,?_,?_⟩
 ·intro o c ho;obtain⟨u,h1,h2,e,hr⟩:=hown0 o c ho;rw[e];exact hr.mono (λ_ _=>rfl) λf b hb _=>⟨hz f b hb,rfl⟩
 ·intro o c g ho hg;obtain⟨u,_,hu,e,_⟩:=hown0 o c ho;rw[e]at hg;exact .inr ⟨u,EC hu,hg⟩
 ·intro o c ho;obtain⟨u,h1,_⟩:=hown0 o c ho;exact(E8.1 h1).1
 ·intro o o' c c' g ho ho' hg hg';obtain⟨u,_,hu,e,_⟩:=hown0 o c ho;obtain⟨u',_,hu',e',_⟩:=hown0 o' c' ho';rw[e]at hg;rw[e']at hg';exact hap o o' u u' g hu hu' hg hg'
 ·intro s sv hs;rcases lk_app _ _ s sv hs with h1|h1
  ·obtain⟨j,p,rfl,hp,rfl⟩:=qa args 0 s sv h1;obtain⟨v,hv,hr⟩:=hvs.get hp;exact⟨v,htd (0+j) v (by simpa using hv),Rep.mono (λb hb _=>⟨hz _ b hb,rfl⟩) hr⟩
  ·obtain⟨j,u,h2,h3,rfl⟩:=mg gl (us++gs) 0 s sv h1;exact⟨_,rfl,by show φ0 (0+j)=u;rw[Fy];exact hφ0 j u h3⟩
 ·intro s sv hs;rcases lk_app _ _ s sv hs with h1|h1
  ·obtain⟨j,p,rfl,hp,rfl⟩:=qa args 0 s sv h1;trivial
  ·obtain⟨j,u,h2,h3,rfl⟩:=mg gl (us++gs) 0 s sv h1;have:j<(us++gs).length:=(E8.1 h3).1;show 0+j<(cs++ds).length;omega
theorem q9.post {P:Program}{fn:Func}{us gs:List Value}{cs':List Value->List Own}{news:List Value->List Own}{rf:Bool}{res:List Value->List PV}{gl hs:List Nat}{w w':World}{Z:Bool->Nat->Prop}{n:Nat}{E:St}{φ:Nat->Value}{a:Act}(tf: ∀b,Z true b->Z false b)(hφ:RelW (Ctx.ofX P w us gs Z n) E.f (· <E.nx) φ a w')
  (hh: ∃(qs rs:List Nat) (ns:List Value),kU E.f (gl.take us.length) us (cs' ns) qs/\kU E.f hs ns (news ns) rs/\dup (qs++rs)=false/\Ret P E.f (!rf) fn.results.toList ((res ns).map .val) []):
  ∃v,(results fn a.tmps).run P w'= .ok v w'/\sW w Z us gs cs' news rf res (.returned v) w':=by
 obtain⟨qs,rs,ns,hk1,hk2,hdup,hret⟩:=hh;obtain⟨ws,h1,h2⟩:=pA hφ hret;have hk:=hφ.kept;obtain⟨⟨hl1,hl2⟩,hat1⟩:=iv hk1;obtain⟨⟨hl3,hl4⟩,hat2⟩:=iv hk2;have heq: ∀g u q,E.f.slot g=some (.eq u q)->φ q=u:=λg u q hg=>(by obtain⟨_,_,e⟩:=hφ.slot g _ hg;exact e);have hinj:=fW (qs++rs) hdup;have hall: ∀(i:Nat) u,(us++ns)[i]? =some u->∃q c2,(qs++rs)[i]? =some q/\E.f.own q=some c2/\φ q=u:=by
  intro i u hi;by_cases hlt:i<us.length
  ·rw[FE hlt]at hi;have hq:i<qs.length:=(by omega);obtain⟨u',c,c2,g,h3,_,h4,_,_,h5⟩:=hat1 i _ (E5 hq);rw[hi]at h3;cases h3;exact⟨qs[i],c2,by rw[FE hq];exact E5 hq,h4,heq g u _ h5⟩
  ·rw[F1 (by omega)]at hi;have hlt2:=(E8.1 hi).1;have hq:i-us.length<rs.length:=(by omega);obtain⟨u',c,c2,g,h3,_,h4,_,_,h5⟩:=hat2 _ _ (E5 hq);rw[hi]at h3;cases h3;exact⟨rs[i-us.length],c2,by rw[F1 (by omega),show i-qs.length=i-us.length by omega];exact E5 hq,h4,heq g u _ h5⟩
 have hzz: ∀f b,Zf (Ctx.ofX P w us gs Z n) E.f φ f b->Zx w Z (us++ns) f b:=by
  intro f b hb;refine⟨?_,λu hu=> ?_⟩
  ·cases f with
   |true=>exact(hb.2 Y).elim .inr .inl
   |false=>exact hb.1.1.elim .inr .inl
  ·obtain⟨i,hi⟩:=EK hu;obtain⟨q,c2,_,h4,rfl⟩:=hall i u hi;exact hb.1.2 q c2 h4
 have htf: ∀b,Zf (Ctx.ofX P w us gs Z n) E.f φ true b->Zf (Ctx.ofX P w us gs Z n) E.f φ false b:=λb hb=>⟨hb.1,λe=>by cases e⟩;have hto: ∀u q c c2 g,E.f.slot g=some (.eq u q)->E.f.own q=some c2->c2.reg c.fr=c->(!c.fr||c2.fr)=true->aA w' (Zx w Z (us++ns)) u c:=by
  intro u q c c2 g hg ho e hf;rw[<-heq g u q hg];exact mY (hφ.own q c2 ho) e hf htf λb hb=>hzz _ b hb
 have hap:ib (us++ns):=by
  intro i j u v g hi hj hg hg';obtain⟨q,c,h3,h4,rfl⟩:=hall i u hi;obtain⟨q',c',h5,h6,rfl⟩:=hall j v hj;have:=hφ.dis q q' c c' g h4 h6 hg hg';subst this;exact hinj i j q h3 h5
 refine⟨mR ws,?_,ws,ns,rfl,hk.os,hk.tape,hk.output,hk.size,λb hb hne=>hk.block b hb (λ⟨u,hu,hv⟩=>hne u hu hv),?_,?_,?_,hap,h2.imp λv p hp=>Rep.mono (λb hb _=>⟨hzz _ b hb,rfl⟩) hp⟩
 ·have e:results fn a.tmps=(do let vs<-fn.results.mapM (cE a.tmps);pure (if h:vs.size=1 then vs[0]else .tuple vs)):=by
   unfold results;congr
  have h1':(fn.results.toList.mapM (cE a.tmps)).run P w'= .ok ws w':=h1;rw[e,GR];simp only[EM,Hy,h1',EG];cases ws with
  |nil=>rfl
  |cons v ws=>cases ws with
   |nil=>rfl
   |cons v' ws=>rfl
 ·exact L2.ofGet hl1 λi u c hi hc=>by
   have hq:i<qs.length:=(by have:=(E8.1 hi).1;omega);obtain⟨u',c',c2,g,h3,h4,h5,h6,h7,h8⟩:=hat1 i _ (E5 hq);rw[hi]at h3;cases h3;rw[hc]at h4;cases h4;exact hto u _ c c2 g h8 h5 h6 h7
 ·exact L2.ofGet hl3 λi u c hi hc=>by
   have hq:i<rs.length:=(by have:=(E8.1 hi).1;omega);obtain⟨u',c',c2,g,h3,h4,h5,h6,h7,h8⟩:=hat2 i _ (E5 hq);rw[hi]at h3;cases h3;rw[hc]at h4;cases h4;exact hto u _ c c2 g h8 h5 h6 h7
 ·intro u g hu hg;obtain⟨i,hi⟩:=EK hu;have hi2:(us++ns)[us.length+i]? =some u:=(by rw[F1 (by omega)];simpa using hi);obtain⟨q,c,h3,h4,rfl⟩:=hall _ u hi2;rcases hφ.mine q c g h4 hg with hge|⟨v,hv,hvg⟩;·exact .inl hge
  ·rcases EW.1 hv with hv|hv
   ·exfalso;obtain⟨j,hj⟩:=EK hv;have hjl:=(E8.1 hj).1;have:=hap j (us.length+i) v (φ q) g (by rw[FE hjl];exact hj) hi2 hvg hg;omega
   ·exact .inr ⟨v,hv,hvg⟩
theorem q9.wp {P:Program}{fn:Func}{c:Code}{us gs:List Value}{cs ds:List Own}{cs' news:List Value->List Own}{args:List (Bool×PV)}{rf:Bool}{res:List Value->List PV}(gl hs:List Nat)(hl:Nat.ble args.length fn.ntmps=true)
  (h: ∀w0 Z,T (Ctx.ofX P w0 us gs Z fn.ntmps) c (n4 gl us gs cs ds args) (q9 P fn us gl cs' news hs rf res)) {w:World} {Z:Bool->Nat->Prop} {vs:List Value} (hp:PreX w Z us gs cs ds args vs):
  c.wp P (bodyPost P fn (sW w Z us gs cs' news rf res)) { tmps:=vs.toArray++Array.replicate (fn.ntmps-vs.toArray.size) undef,defers:=[] } w:=by
 refine wp_mono ((h w Z).out _ w (hp.rel gl (F3 hl))) λx a w' ⟨hfe,E,hq,φ,hφ⟩=> ?_;have key:=λhh=>(q9.post (fn:=fn) (cs':=cs') (news:=news) (rf:=rf) (res:=res) (gl:=gl) (hs:=hs) hp.tf hφ hh);cases x with
 |normal=>exact⟨hφ.df,key hq⟩
 |ret=>exact⟨hφ.df,key hq⟩
 |exit id=>exact hq.elim
 |goto l=>exact hq.elim
 |panic ch=>simp[fine]at hfe
 |outgrown=>simp[fine]at hfe
theorem SpecX.body {P:Program} {f:FuncId} {fn:Func} {c:Code} {us gs:List Value} {cs ds:List Own} {cs' news:List Value->List Own} {args:List (Bool×PV)} {rf:Bool} {res:List Value->List PV} (gl hs:List Nat) (hf:P.funcs[f]? =some fn) (hb:fn.body=some c) (hn:(fn.name== "runtime.NumGoroutine")=false) (hl:Nat.ble args.length fn.ntmps=true)
  (h: ∀w0 Z,T (Ctx.ofX P w0 us gs Z fn.ntmps) c (n4 gl us gs cs ds args) (q9 P fn us gl cs' news hs rf res)):SpecX P f us gs cs ds args cs' news rf res:=
 ⟨⟨fn,hf,by rw[hb];rfl,hn⟩,λw Z vs hp=>calls_of_wp hf hb (q9.wp gl hs hl h hp)⟩
theorem Rel.pf {K:Ctx}{sl:List (Nat×SV)}{ow:List (Nat×Option Own)}{nx s:Nat}{fr:Bool}{cs:List PV}(hs:lk sl s=some (.val fr (.ptr cs)))(a:Act)(w:World)(h:Rel K ⟨sl,ow,nx⟩ a w):Rel K ⟨(s,.fptr fr cs)::sl,ow,nx⟩ a w:=by
 obtain⟨φ,hφ⟩:=h;refine⟨φ,hφ.df,hφ.sz,hφ.old,hφ.kept,hφ.own,hφ.mine,hφ.inU,hφ.dis,?_,?_⟩
 ·intro t sv hsv;rcases slot_put t sv hsv with ⟨rfl,rfl⟩|⟨_,h⟩
  ·obtain⟨v,hv,hr⟩:=hφ.slot t _ hs;obtain⟨b,o,xs,e,hz,hlt,h2,h1,h3⟩:=lU hr;exact⟨v,hv,b,o,xs,e,hz,hlt,h2,h1,h3⟩
  ·exact hφ.slot t sv h
 ·intro t sv hsv;rcases slot_put t sv hsv with ⟨rfl,rfl⟩|⟨_,h⟩;·trivial
  ·exact hφ.sin t sv h
theorem Rel.ecp {K:Ctx}{sl:List (Nat×SV)}{ow:List (Nat×Option Own)}{nx:Nat}(g2 g:Nat){u:Value}{o:Nat}(hg:lk sl g=some (.eq u o))(a:Act)(w:World)(h:Rel K ⟨sl,ow,nx⟩ a w):Rel K ⟨(g2,.eq u o)::sl,ow,nx⟩ a w:=by
 obtain⟨φ,hφ⟩:=h;obtain⟨v,hv⟩:=e6 hφ (g:=g2) Y;obtain⟨_,_,e⟩:=hφ.slot g _ hg;exact⟨φ,hφ.reslot (sv:= .eq u o) hv e (hφ.sin g (.eq u o) hg) Y slot_put⟩
def iL:List Nat->List (Nat×Option Own)->List (Nat×Option Own)
 |q::qs,ow=>(q,none)::iL qs ow
 | [],ow=>ow
def iF:List Nat->List Own->List (Nat×Option Own)->List (Nat×Option Own)
 |q::qs,c::cs,ow=>(q,some c)::iF qs cs ow
 |_,_,ow=>ow
def iM:Nat->List Own->List (Nat×Option Own)->List (Nat×Option Own)
 |n,c::cs,ow=>(n,some c)::iM (n+1) cs ow
 |_,[],ow=>ow
theorem r6 {ow:List (Nat×Option Own)}: ∀(qs:List Nat) (i:Nat) (c:Own),(lk (iL qs ow) i).join=some c->i∉qs/\(lk ow i).join=some c
 | [],i,c,h=>⟨by simp,h⟩
 |q::qs,i,c,h=>by
  simp only[iL,ak]at h;by_cases e:q=i;·rw[E6 e]at h;simp at h
  ·rw[E4 e]at h;obtain⟨h1,h2⟩:=r6 qs i c h;exact⟨by simp[h1,Ne.symm e],h2⟩
theorem lk_setOwX {ow:List (Nat×Option Own)}: ∀(qs:List Nat) (cs:List Own) (i:Nat) (c:Own),qs.length=cs.length->(lk (iF qs cs ow) i).join=some c->(∃j:Nat,qs[j]? =some i/\cs[j]? =some c)∨(i∉qs/\(lk ow i).join=some c)
 | [],[],i,c,_,h=> .inr ⟨by simp,h⟩
 |q::qs,c0::cs,i,c,hl,h=>by
  simp only[iF,ak]at h;by_cases e:q=i
  ·rw[E6 e]at h;exact .inl ⟨0,by simp[e],by simpa using h⟩
  ·rw[E4 e]at h;rcases lk_setOwX qs cs i c (by simpa using hl) h with ⟨j,h1,h2⟩|⟨h1,h2⟩;·exact .inl ⟨j+1,by simpa using h1,by simpa using h2⟩
   ·exact .inr ⟨by simp[h1,Ne.symm e],h2⟩
 | [],_::_,_,_,hl,_=>by simp at hl
 |_::_,[],_,_,hl,_=>by simp at hl
theorem lk_newOwX {ow:List (Nat×Option Own)}: ∀(cs:List Own) (n i:Nat) (c:Own),(lk (iM n cs ow) i).join=some c->(∃j:Nat,i=n+j/\cs[j]? =some c)∨(¬(n<=i/\i<n+cs.length)/\(lk ow i).join=some c)
 | [],n,i,c,h=> .inr ⟨by simp,h⟩
 |c0::cs,n,i,c,h=>by
  simp only[iM,ak]at h;by_cases e:n=i
  ·rw[E6 e]at h;exact .inl ⟨0,by omega,by simpa using h⟩
  ·rw[E4 e]at h;rcases lk_newOwX cs (n+1) i c h with ⟨j,h1,h2⟩|⟨h1,h2⟩;·exact .inl ⟨j+1,by omega,by simpa using h2⟩
   ·exact .inr ⟨by simp only[El];omega,h2⟩
def Dq (V:EnvF)(us:List Value)(qs:List Nat)(x:Operand):Option (Bool×PV):=
 match V.get x with
 |some (.optr q 0 0 0)=>match V.own q,idx qs q with
  |some (.box _ _),some i=>(us[i]?).map λu=>(true,.raw u)
  |_,_=>none
 |some (.ref q)=>match V.own q,idx qs q with
  |some (.fam ..),_=>none
  |some _,some i=>(us[i]?).map λu=>(true,.raw u)
  |_,_=>none
 |some sv=>match sv.ff with
  |some (fr,p)=>some (fr||p.flat,p)
  |none=>none
 |none=>none
def wN (V:EnvF)(us:List Value)(qs:List Nat):List Operand->Option (List (Bool×PV))
 | []=>some []
 |x::xs=>match Dq V us qs x,wN V us qs xs with
  |some p,some l=>some (p::l)
  |_,_=>none
def leX:List (Bool×PV)->List (Bool×PV)->Bool
 |p::l,q::m=>(!q.1||p.1)&&leX l m
 | [],[]=>true
 |_,_=>false
def AB (fx:Bool)(l:List PV):List (Bool×PV):=l.map λp=>(fx||p.flat,p)
section
variable {w:World}{Z:Bool->Nat->Prop}
theorem r8 (tf: ∀b,Z true b->Z false b): ∀{vs:List Value} {ps qs:List (Bool×PV)},L2 (λv (p:Bool×PV)=>Rep w (Z p.1) v p.2) vs ps->ps.map (·.2)=qs.map (·.2)->leX ps qs=true->L2 (λv (p:Bool×PV)=>Rep w (Z p.1) v p.2) vs qs
 | [],[],[],_,_,_=> .nil
 |v::vs,p::ps,q::qs,.cons h h2,he,hle=>by
  simp only[Ek,List.cons.injEq]at he;simp only[leX,EL]at hle;refine .cons ?_ (r8 tf h2 he.2 hle.2);rw[<-he.1];refine Rep.mono (λb hb _=>⟨?_,rfl⟩) h;obtain⟨f,p'⟩:=p;obtain⟨g,q'⟩:=q;cases f<;>cases g<;>first|exact hb|exact tf b hb|simp at hle
 | [],[],_::_,_,_,hle=>by simp[leX]at hle
 |_::_,_::_,[],_,_,hle=>by simp[leX]at hle
theorem lC {fx:Bool}: ∀{vs:List Value} {ps:List PV},L2 (Rep w (Z fx)) vs ps->L2 (λv (p:Bool×PV)=>Rep w (Z p.1) v p.2) vs (AB fx ps)
 | [],[],.nil=> .nil
 |v::vs,p::ps,.cons h h2=>by
  refine .cons ?_ (lC h2);show Rep w (Z (fx||p.flat)) v p;cases hf:p.flat with
  |true=>exact h.flat hf
  |false=>rw[Bool.or_false];exact h
end
section
variable {K:Ctx}{V:EnvF}{U:Nat->Prop}{φ:Nat->Value}{a:Act}{w:World}
theorem Cp {Z:Bool->Nat->Prop}{v:Value}{c:Own}(h:aA w Z v c)(hc:(match c with| .fam .. =>false|_=>true)=true):v.oneCell'=true:=by
 cases c with
 |sl e sz fr rows=>
  obtain⟨xs,ho,_⟩:=h;rcases ho.2 with ⟨rfl,_⟩|⟨g,cap,cur,rfl,_⟩<;>rfl
 |box fr row=>obtain⟨g',t,cur,rfl,_⟩:=h;rfl
 |fam e sz fr l=>cases hc
 |mp fr b l=>obtain⟨g',es,clock,rfl,_⟩:=h;rfl
 |it m since seen last=>obtain⟨g',rfl,_⟩:=h;rfl
 |sit s pos=>obtain⟨g',rfl,_⟩:=h;rfl
theorem yn (h:RelW K V U φ a w){us:List Value}{qs:List Nat}(hval: ∀(i q:Nat) (u:Value),qs[i]? =some q->us[i]? =some u->φ q=u){x:Operand}{p:Bool×PV}(hp:Dq V us qs x=some p):Rep w (Zf K V φ p.1) (a.eval x) p.2:=by
 unfold Dq at hp;split at hp
 ·rename_i q hx;obtain⟨hr,_⟩:=ah h hx;split at hp
  ·rename_i fr row i ho hi;obtain⟨u,hu,rfl⟩:=Ej.1 hp;have e:=hval i q u (eE qs q i hi) hu;obtain⟨g,hg,hv⟩:=hr;obtain⟨g',t,cur,e2,_⟩:=h.own q _ ho;rw[e2]at hg;simp only[aC,E9]at hg;subst hg;rw[hv,show 0*0+0=0 from Y,<-e2,e];exact .raw u (by rw[<-e,e2];rfl)
  ·cases hp
 ·rename_i q hx;obtain⟨hr,_⟩:=ah h hx;split at hp;·cases hp
  ·rename_i c i hno ho hi;obtain⟨u,hu,rfl⟩:=Ej.1 hp;have e:=hval i q u (eE qs q i hi) hu;have hr:a.eval x=φ q:=hr;rw[hr,e];exact .raw u (by rw[<-e];exact Cp (h.own q c ho) (by cases c<;>first|rfl|exact EX Y (hno _ _ _ _)))
  ·cases hp
 ·rename_i sv _ _ hx;split at hp
  ·rename_i fr p' hff;obtain rfl:=E7 hp;have hrep:=bK h hx hff;show Rep w (Zf K V φ (fr||p'.flat)) _ p';cases hf:p'.flat with
   |true=>exact hrep.flat hf
   |false=>rw[Bool.or_false];exact hrep
  ·cases hp
 ·cases hp
theorem ot (h:RelW K V U φ a w){us:List Value}{qs:List Nat}(hval: ∀(i q:Nat) (u:Value),qs[i]? =some q->us[i]? =some u->φ q=u): ∀(xs:List Operand) (ps:List (Bool×PV)),wN V us qs xs=some ps->L2 (λv (p:Bool×PV)=>Rep w (Zf K V φ p.1) v p.2) (xs.map a.eval) ps
 | [],ps,hp=>by simp only[wN,E9]at hp;subst hp;exact .nil
 |x::xs,ps,hp=>by
  simp only[wN]at hp;split at hp
  ·rename_i p l hx hl;obtain rfl:=E7 hp;exact .cons (yn h hval hx) (ot h hval xs l hl)
  ·cases hp
end
theorem RelW.callX {K:Ctx}{sl:List (Nat×SV)}{ow:List (Nat×Option Own)}{nx:Nat}{φ:Nat->Value}{a:Act}{w w':World}{us gs:List Value}{cs ds:List Own}{cs' news:List Value->List Own}{rf:Bool}{res:List Value->List PV}{qs:List Nat}{gl:List Nat}{x:Ending}(hφ:RelW K (St.mk sl ow nx).f (· <nx) φ a w)
  (hul:us.length=cs.length) (hq:kU (St.mk sl ow nx).f gl (us++gs) (cs++ds) qs) (hdup:dup qs=false) (hp:sW w (Zf K (St.mk sl ow nx).f φ) us gs cs' news rf res x w'):
  ∃rs ns:List Value,x= .returned (mR rs)/\ns.length=(news ns).length/\us.length=(cs' ns).length/\RelW K (St.mk sl (iM nx (news ns) (iF (qs.take us.length) (cs' ns) (iL (qs.drop us.length) ow))) (nx+(news ns).length)).f (· <nx+(news ns).length) (bQ φ nx ns) a w'/\
   L2 (Rep w' (Zf K (St.mk sl (iM nx (news ns) (iF (qs.take us.length) (cs' ns) (iL (qs.drop us.length) ow))) (nx+(news ns).length)).f (bQ φ nx ns) rf)) rs (res ns):=by
 obtain⟨rs,ns,rfl,hos,htape,hout,hsize,hblk,hus,hns,hfresh,hap,hres⟩:=hp;obtain⟨⟨hl1,hl2⟩,hat⟩:=iv hq;have hval: ∀(i q:Nat) (u:Value),qs[i]? =some q->(us++gs)[i]? =some u->φ q=u:=by
  intro i q u h1 h2;obtain⟨u',c,c2,g,h3,_,_,_,_,h5⟩:=hat i q h1;rw[h2]at h3;cases h3;obtain⟨_,_,e⟩:=hφ.slot g _ h5;exact e
 have hinj:=fW qs hdup;have hownq: ∀q∈qs,∃c,(St.mk sl ow nx).f.own q=some c:=λq hq=>by
  obtain⟨i,hi⟩:=EK hq;obtain⟨_,_,c2,_,_,_,h,_⟩:=hat i q hi;exact⟨c2,h⟩
 have hoff: ∀b,(∀q∈qs,¬VB (φ q) b)->Off (us++gs) b:=by
  intro b hb u hu;obtain⟨i,hi⟩:=EK hu;have hil:i<qs.length:=(by have:=(E8.1 hi).1;omega);rw[<-hval i _ u (E5 hil) hi];exact hb _ (EA hil)
 have hnl:=hns.length;have hkl:=hus.length;have hlen:us.length+gs.length=qs.length:=(by rw[EZ]at hl1;omega);have hkq:(qs.take us.length).length=(cs' ns).length:=(by rw[F0];omega);have htake: ∀(j q:Nat),(qs.take us.length)[j]? =some q->j<us.length/\qs[j]? =some q:=by
  intro j q h;have hj:j<(qs.take us.length).length:=(E8.1 h).1;rw[GC (by omega)]at h;exact⟨by omega,h⟩
 let φ':Nat->Value:=bQ φ nx ns;have hφ': ∀i,i<nx->φ' i=φ i:=λi hi=>(by simp only[φ',bQ];rw[E4 (by omega)]);have hφn: ∀(j:Nat) u,ns[j]? =some u->φ' (nx+j)=u:=by
  intro j u hu;have hj:=(E8.1 hu).1;simp only[φ',bQ];rw[E6 (by omega),E0,FW,hu];rfl
 let E':St:=⟨sl,iM nx (news ns) (iF (qs.take us.length) (cs' ns) (iL (qs.drop us.length) ow)),nx+(news ns).length⟩;have hcase: ∀i c,E'.f.own i=some c->(∃j:Nat,i=nx+j/\(news ns)[j]? =some c)∨(∃j:Nat,j<us.length/\qs[j]? =some i/\(cs' ns)[j]? =some c)∨(i∉qs/\¬(nx<=i/\i<nx+(news ns).length)/\(St.mk sl ow nx).f.own i=some c):=by
  intro i c h;rcases lk_newOwX (news ns) nx i c h with h1|⟨h1,h2⟩;·exact .inl h1
  ·rcases lk_setOwX (qs.take us.length) (cs' ns) i c hkq h2 with ⟨j,h3,h4⟩|⟨h3,h4⟩
   ·obtain⟨h5,h6⟩:=htake j i h3;exact .inr (.inl ⟨j,h5,h6,h4⟩)
   ·obtain⟨h5,h6⟩:=r6 (qs.drop us.length) i c h4;refine .inr (.inr ⟨λhm=> ?_,h1,h6⟩);rw[<-GA us.length qs]at hm;exact(EW.1 hm).elim h3 h5
 have hqlt: ∀q∈qs,q<nx:=λq hqm=>(by obtain⟨c,hc⟩:=hownq q hqm;exact hφ.inU q c hc);have hC: ∀i,i∉qs->¬(nx<=i/\i<nx+(news ns).length)->¬(i∈qs∨(nx<=i/\i<nx+(news ns).length)):=λi h1 h2 h3=>h3.elim h1 h2;have husl: ∀{j:Nat} {i:Nat},j<us.length->qs[j]? =some i->∃u,us[j]? =some u/\φ i=u/\u∈us:=by
  intro j i hj hi;have hu:=E5 hj;exact⟨us[j],hu,hval j i _ hi (by rw[FE hj];exact hu),EA hj⟩
 have hZp: ∀f b,Zx w (Zf K (St.mk sl ow nx).f φ) (us++ns) f b->Zf K E'.f φ' f b:=by
  rintro f b ⟨hb1,hb2⟩;refine⟨⟨?_,λi c hi hv=> ?_⟩,λe=> ?_⟩
  ·rcases hb1 with hb1|hb1;·exact hb1.1.1
   ·exact .inl (Em hφ.kept.size hb1)
  ·rcases hcase i c hi with ⟨j,rfl,h1⟩|⟨j,hj,h1,h2⟩|⟨h1,h2,h3⟩
   ·have hj:j<ns.length:=(by have:=(E8.1 h1).1;omega);have hu:=E5 hj;rw[hφn j _ hu]at hv;exact hb2 _ (Ey _ (EA hj)) hv
   ·obtain⟨u,_,e,hm⟩:=husl hj h1;rw[hφ' i (hqlt i (EC h1)),e]at hv;exact hb2 _ (Ex _ hm) hv
   ·rw[hφ' i (hφ.inU i c h3)]at hv;rcases hb1 with hb1|hb1;·exact hb1.1.2 i c h3 hv
    ·have:=(hφ.own i c h3).lt hv;omega
  ·rcases hb1 with hb1|hb1;·exact hb1.2 e
   ·exact K.hF _ (Em hφ.kept.size hb1)
 have hrel:RelW K E'.f (· <nx+(news ns).length) φ' a w':=by
  refine hφ.step (λb=> ∃q∈qs,VB (φ q) b) (λi=>i∈qs∨(nx<=i/\i<nx+(news ns).length)) Y (λi (hi:i<nx)=>by show i<nx+(news ns).length;omega) (λi hi=>hφ' i hi) hos htape hout hsize ?_ ?_ ?_ ?_ ?_
  ·intro b hb hne;exact hblk b hb (hoff b λq hqm e=>hne ⟨q,hqm,e⟩)
  ·rintro b _ ⟨q,hqm,e⟩;obtain⟨c,hc⟩:=hownq q hqm;exact⟨q,c,hc,e,.inl hqm⟩
  ·intro i c hi hne;rcases hcase i c hi with ⟨j,rfl,h1⟩|⟨j,hj,h1,h2⟩|⟨h1,h2,h3⟩
   ·have:=(E8.1 h1).1;exact EX (.inr ⟨by omega,by omega⟩) hne
   ·exact EX (.inl (EC h1)) hne
   ·exact h3
  ·intro i c hi hie;rcases hcase i c hi with ⟨j,rfl,h1⟩|⟨j,hj,h1,h2⟩|⟨h1,h2,h3⟩
   ·have hj:=(E8.1 h1).1;obtain⟨u,hu,hr⟩:=hns.get h1;rw[hφn j u hu];refine⟨by show nx+j<nx+(news ns).length;omega,hr.mono (λ_ _=>rfl) λf b hb _=>⟨hZp f b hb,rfl⟩,λg hg=> ?_⟩;rcases hfresh u g (EC hu) hg with h|⟨v,hv,hvg⟩;·exact .inl h
    ·obtain⟨i,hi⟩:=EK (Ey us hv);have hil:i<qs.length:=(by have:=(E8.1 hi).1;omega);obtain⟨c1,hc1⟩:=hownq _ (EA hil);exact .inr ⟨qs[i],c1,hc1,by rw[hval i _ v (E5 hil) hi];exact hvg,.inl (EA hil)⟩
   ·obtain⟨u,hu,e,_⟩:=husl hj h1;obtain⟨u2,hu2,hr⟩:=hus.get h2;rw[hu]at hu2;cases hu2;have hlt2:=hqlt i (EC h1);rw[hφ' i hlt2];refine⟨by show i<nx+(news ns).length;omega,by rw[e];exact hr.mono (λ_ _=>rfl) λf b hb _=>⟨hZp f b hb,rfl⟩,λg hg=> ?_⟩;obtain⟨c1,hc1⟩:=hownq i (EC h1);exact .inr ⟨i,c1,hc1,hg,.inl (EC h1)⟩
   ·exact EX hie (hC i h1 h2)
  ·intro i i' c c' g hi hi' hie hie' hv hv';have key: ∀i c,E'.f.own i=some c->(i∈qs∨(nx<=i/\i<nx+(news ns).length))->VB (φ' i) g->∃(j:Nat) (u:Value),(us++ns)[j]? =some u/\VB u g/\((j<us.length/\qs[j]? =some i)∨(us.length<=j/\i=nx+(j-us.length))):=by
    intro i c hi hie hv;rcases hcase i c hi with ⟨j,rfl,h1⟩|⟨j,hj,h1,h2⟩|⟨h1,h2,h3⟩
    ·have hj:j<ns.length:=(by have:=(E8.1 h1).1;omega);have hu:=E5 hj;rw[hφn j _ hu]at hv;exact⟨us.length+j,_,by rw[F1 (by omega)];simp,hv,.inr ⟨by omega,by congr 1;omega⟩⟩
    ·obtain⟨u,hu,e,_⟩:=husl hj h1;rw[hφ' i (hqlt i (EC h1)),e]at hv;exact⟨j,u,by rw[FE hj];exact hu,hv,.inl ⟨hj,h1⟩⟩
    ·exact EX hie (hC i h1 h2)
   obtain⟨j,u,h1,h2,h3⟩:=key i c hi hie hv;obtain⟨j',u',h4,h5,h6⟩:=key i' c' hi' hie' hv';have e:=hap j j' u u' g h1 h4 h2 h5;subst e;rcases h3 with ⟨h3,h7⟩|⟨h3,h7⟩<;>rcases h6 with ⟨h6,h8⟩|⟨h6,h8⟩;·rw[h7]at h8;exact E7 h8
   ·omega
   ·omega
   ·omega
 exact⟨rs,ns,rfl,hnl,hkl,hrel,Rep.monoL (λb hb _=>⟨hZp rf b hb,rfl⟩) hres⟩
theorem J.cx {K:Ctx}{ops:Array Oper}{o:Oper}{rest:List Oper}{sl:List (Nat×SV)}{ow:List (Nat×Option Own)}{nx:Nat}{R:St->Prop}{d:Nat}{x:Operand}{args:Array Operand}{tys:Array TypeId}{f:FuncId}{fx rf:Bool}{first caps:List PV}{ps ps':List (Bool×PV)}{us gs:List Value}{cs ds:List Own}{cs' news:List Value->List Own}{res:List Value->List PV}(qs gl hs:List Nat)
  (hspec:SpecX K.P f us gs cs ds ps' cs' news rf res) (hq:kU (St.mk sl ow nx).f gl (us++gs) (cs++ds) qs)
  (k: ∀ns:List Value,ns.length=(news ns).length->J K ops false rest ⟨(d,RV.one rf nx ((res ns).map .val))::oc nx hs ns sl,iM nx (news ns) (iF (qs.take us.length) (cs' ns) (iL (qs.drop us.length) ow)),nx+(news ns).length⟩ R)
  (ho:o.op= .call { callee:= .value x,args:=args,argTypes:=tys }:=by exact Y) (hg:wants ops (St.mk sl ow nx).f o=some true:=by exact Y) (hd:o.dst=some d:=by exact Y) (hlt:K.can d=true:=by exact Y) (hx:(St.mk sl ow nx).f.get x=some (.val fx (.fn (.func f) first caps)):=by exact Y)
  (hul:us.length=cs.length:=by exact Y) (hdup:dup qs=false:=by exact Y)
  (hps:wN (St.mk sl ow nx).f (us++gs) qs args.toList=some ps:=by exact Y) (hpe:(AB fx first++ps++AB fx caps).map (·.2)=ps'.map (·.2):=by exact Y) (hle:leX (AB fx first++ps++AB fx caps) ps'=true:=by exact Y):J K ops false (o::rest) ⟨sl,ow,nx⟩ R:=by
 refine⟨TO.mk λa w Q hr hQ=> ?_⟩;obtain⟨φ,hφ⟩:=hr;unfold wpList;rw[E6 (aH hφ hg)];refine .inl ?_;obtain⟨hrf,_⟩:=ah hφ hx;generalize hvx:a.eval x=vx at hrf;cases hrf with
 |fn _ vs vcs _ _ hf hc=>
 obtain⟨fn,hfn,hbody,hname⟩:=hspec.isFn;have hrun:(execOp a.eval o).run K.P w= .ok (.enter f (vs++args.toList.map a.eval++vcs).toArray) w:=by
  have hb:fn.body.isNone=false:=(by cases hfb:fn.body<;>simp_all);simp only[execOp,ho,resolve,hvx,Deferred.ofValue,EM,Ev,EG,invoke,callFunc,run_program,hfn,hname,hb,FC,if_false];congr 2;apply Array.ext';simp
 unfold Oper.wp;rw[hrun];obtain⟨⟨hl1,hl2⟩,hat⟩:=iv hq;have hval: ∀(i q:Nat) (u:Value),qs[i]? =some q->(us++gs)[i]? =some u->φ q=u:=by
  intro i q u h1 h2;obtain⟨u',c,c2,g,h3,_,_,_,_,h5⟩:=hat i q h1;rw[h2]at h3;cases h3;obtain⟨_,_,e⟩:=hφ.slot g _ h5;exact e
 have hinj:=fW qs hdup;have hget: ∀(i:Nat) u,(us++gs)[i]? =some u->∃q,qs[i]? =some q/\φ q=u/\∃c,(St.mk sl ow nx).f.own q=some c:=λi u hu=>by
  have hil:i<qs.length:=(by have:=(E8.1 hu).1;omega);obtain⟨_,_,c2,_,_,_,h,_⟩:=hat i _ (E5 hil);exact⟨qs[i],E5 hil,hval i _ u (E5 hil) hu,c2,h⟩
 have tf: ∀b,Zf K (St.mk sl ow nx).f φ true b->Zf K (St.mk sl ow nx).f φ false b:=λb hb=>⟨hb.1,λe=>by cases e⟩;have hown: ∀(i:Nat) u c,(us++gs)[i]? =some u->(cs++ds)[i]? =some c->aA w (Zf K (St.mk sl ow nx).f φ) u c:=by
  intro i u c h1 h2;have hil:i<qs.length:=(by have:=(E8.1 h1).1;omega);obtain⟨u',c',c2,g,h3,h4,h5,h6,h7,_⟩:=hat i _ (E5 hil);rw[h1]at h3;cases h3;rw[h2]at h4;cases h4;have ho2:=hφ.own _ _ h5;rw[hval i _ u (E5 hil) h1]at ho2;exact mY ho2 h6 h7 tf λ_ hb=>hb
 have hgl:gs.length=ds.length:=(by rw[EZ,EZ]at hl1;omega);have hpre:PreX w (Zf K (St.mk sl ow nx).f φ) us gs cs ds ps' (vs++args.toList.map a.eval++vcs):=by
  refine⟨tf,L2.ofGet hul λi u c h1 h2=> ?_,L2.ofGet hgl λi u c h1 h2=> ?_,?_,?_,?_⟩
  ·have e1:=(E8.1 h1).1;exact hown i u c (by rw[FE e1];exact h1) (by rw[FE (by omega)];exact h2)
  ·exact hown (us.length+i) u c (by rw[F1 (by omega),FW];exact h1) (by rw[F1 (by omega),hul,FW];exact h2)
  ·intro i j u v g h1 h2 hg1 hg2;obtain⟨q,h3,rfl,c,h5⟩:=hget i u h1;obtain⟨q',h4,rfl,c',h6⟩:=hget j v h2;have:=hφ.dis _ _ c c' g h5 h6 hg1 hg2;exact hinj i j _ h3 (by rw[this];exact h4)
  ·intro b hb u hu;obtain⟨i,hi⟩:=EK hu;obtain⟨q,_,rfl,c,hc⟩:=hget i u hi;exact hb.1.2 q c hc
  ·exact r8 tf (((lC hf).append (ot hφ hval args.toList ps hps)).append (lC hc)) hpe hle
 refine(hspec.out w _ _ hpre).mono ?_;intro x w' hpost;obtain⟨rs,ns,rfl,hnl,hkl,hrel,hres⟩:=hφ.callX hul hq hdup hpost;let E':St:=⟨sl,iM nx (news ns) (iF (qs.take us.length) (cs' ns) (iL (qs.drop us.length) ow)),nx+(news ns).length⟩;have heach:L2 (RV1 w' (Zf K E'.f (bQ φ nx ns) rf)) rs ((res ns).map .val):=by
  clear k hQ hspec;generalize res ns=rl at*;clear hpost
  induction hres with
  |nil=>exact .nil
  |cons h1 _ ih=>exact .cons h1 ih
 have hφn: ∀(j:Nat) u,ns[j]? =some u->bQ φ nx ns (nx+j)=u:=by
  intro j u hu;have hj:=(E8.1 hu).1;simp only[bQ];rw[E6 (by omega),E0,FW,hu];rfl
 have hdst: ∀(v:Value) (sv:SV),bg w' (Zf K E'.f (bQ φ nx ns)) (bQ φ nx ns) v sv->sv.inU (· <nx+(news ns).length)->Rel K ⟨(d,sv)::oc nx hs ns sl,E'.ow,nx+(news ns).length⟩ (a.put o.dst v) w':=by
  intro v sv h1 h2;refine⟨bQ φ nx ns,?_⟩;have hput:RelW K (St.mk ((d,sv)::sl) E'.ow (nx+(news ns).length)).f (· <nx+(news ns).length) (bQ φ nx ns) (a.put o.dst v) w':=by
   rw[hd];exact hrel.put hlt h1 h2 Y slot_put
  refine⟨hput.df,hput.sz,hput.old,hput.kept,hput.own,hput.mine,hput.inU,hput.dis,?_,?_⟩
  ·intro s sv' hs';rcases slot_put s sv' hs' with ⟨rfl,rfl⟩|⟨hne,h3⟩;·exact hput.slot s sv' (by show lk ((s,sv')::sl) s=_;rw[ak,E6 Y])
   ·rcases lk_eqsOn hs ns nx s sv' h3 with ⟨j,u,h4,h5,rfl⟩|h4
    ·refine⟨_,rfl,?_⟩;exact hφn j u h5
    ·exact hput.slot s sv' (by show lk ((d,sv)::sl) s=_;rw[ak,E4 (Ne.symm hne)];exact h4)
  ·intro s sv' hs';rcases slot_put s sv' hs' with ⟨rfl,rfl⟩|⟨hne,h3⟩;·exact h2
   ·rcases lk_eqsOn hs ns nx s sv' h3 with ⟨j,u,h4,h5,rfl⟩|h4
    ·have:=(E8.1 h5).1;show nx+j<nx+(news ns).length;omega
    ·exact hput.sin s sv' (by show lk ((d,sv)::sl) s=_;rw[ak,E4 (Ne.symm hne)];exact h4)
 obtain⟨h1,h2⟩:=dO (U:=(· <nx+(news ns).length)) (Z:=Zf K E'.f (bQ φ nx ns)) (φ:=bQ φ nx ns) ((res ns).map .val) rs nx heach (λi v hi=>by rw[f5]at hi;simp at hi) (λi hi=>by rw[f7]at hi;simp at hi);obtain⟨h3,h4⟩:=fg h1 h2;exact((k ns hnl).out).out _ _ Q (hdst _ _ h3 h4) hQ
section
variable {K:Ctx}{sl:List (Nat×SV)}{ow:List (Nat×Option Own)}{nx:Nat}{e:TypeId}{sz:Nat}{fr:Bool}{rows:List (List PV)}
theorem T.known {c:Code}{Q:Exit->St->Prop}{u:Value}(g q:Nat)(hg:lk sl g=some (.eq u q))(hq:(St.mk sl ow nx).f.own q=some (.sl e sz fr rows))(hne:rows≠[])
  (k: ∀b cap,u= .slice (some ⟨b,0,none⟩) rows.length cap->rows.length<=cap->0<cap->T K c ⟨sl,ow,nx⟩ Q):T K c ⟨sl,ow,nx⟩ Q:=by
 refine⟨λa w hr=> ?_⟩;obtain⟨φ,hφ⟩:=hr;obtain⟨xs,⟨_,h⟩,_⟩:=hφ.own q _ hq;obtain⟨_,_,e1⟩:=hφ.slot g _ hg;have e1:φ q=u:=e1;rcases h with ⟨_,h0⟩|⟨b,cap,cur,hv,_,_,hcap,_⟩;·exact EX (List.length_eq_zero_iff.1 h0) hne
 ·have:0<rows.length:=HM.2 hne;exact(k b cap (e1.symm.trans hv) hcap (by omega)).out a w ⟨φ,hφ⟩
theorem T.knownp {c:Code}{Q:Exit->St->Prop}{u:Value}{row:List PV}(g q:Nat)(hg:lk sl g=some (.eq u q))(hq:(St.mk sl ow nx).f.own q=some (.box fr row))
  (k: ∀b,u= .pointer (some ⟨b,0,none⟩)->T K c ⟨sl,ow,nx⟩ Q):T K c ⟨sl,ow,nx⟩ Q:=by
 refine⟨λa w hr=> ?_⟩;obtain⟨φ,hφ⟩:=hr;obtain⟨b,_,_,hv,_⟩:=hφ.own q _ hq;obtain⟨_,_,e1⟩:=hφ.slot g _ hg;exact(k b (Eq.trans (Eq.symm e1) hv)).out a w ⟨φ,hφ⟩
theorem Rel.ownN (g:Nat)(e:TypeId)(sz:Nat)(a:Act)(w:World)(h:Rel K ⟨sl,ow,nx⟩ a w):
  Rel K ⟨(g,.eq (.slice none 0 0) nx)::sl,(nx,some (.sl e sz true []))::ow,nx+1⟩ a w:=by
 obtain⟨φ,hφ⟩:=h;have hadd:=hφ.add (Below.refl _ _) nx [.sl e sz true []] [.slice none 0 0] (λi h1 _ h3=>EX h3 (IG.2 h1)) Y (λi c v hc hv=>by
  cases i with
  |zero=>
   simp at hc hv;subst hc hv;exact⟨⟨[],World.ownsRow_nil w 0 e sz,.nil,by simp,by simp⟩,λg hg=>by simp[VB,aC]at hg⟩
  |succ i=>simp at hc) (λi j v v' g hi hj hv _=>by cases i<;>cases j<;>simp_all)
 have hU:eQ (· <nx) nx [.sl e sz true []]=(· <nx+1):=(by funext i;simp only[eQ,eq_iff_iff,FY];omega);have h2:RelW K (St.mk sl ((nx,some (.sl e sz true []))::ow) (nx+1)).f (· <nx+1) (bQ φ nx [.slice none 0 0]) a w:=by
  have:=tO sl ow nx (nx+1) [.sl e sz true []];simp only[c6]at this;rw[this,<-hU];exact hadd
 obtain⟨v,hv⟩:=e6 h2 (g:=g) Y;exact⟨_,h2.reslot (sv:= .eq (.slice none 0 0) nx) hv (by simp[bg,aE,bQ]) (by show nx<nx+1;omega) Y slot_put⟩
theorem o8: ∀(l:List (List PV)) (i:Nat),(∀r∈l,r.length=sz)->i<=l.length->(l.take i).flatten=l.flatten.take (i*sz)
 | [],i,_,hi=>by simp
 |r::l,0,_,_=>by simp
 |r::l,i+1,h1,hi=>by
  have hr:=h1 r (.head _);have e1:(i+1)*sz=r.length+i*sz:=(by rw[hr,GJ,GF]);rw[Hl,FM,FM,o8 l i (λr h=>h1 r (.tail _ h)) (by simpa using hi),e1,List.take_length_add_append]
theorem Rel.recut {b n cap:Nat}(g q i:Nat)(hg:lk sl g=some (.eq (.slice (some ⟨b,0,none⟩) n cap) q))(hq:(St.mk sl ow nx).f.own q=some (.sl e sz fr rows))(hi:i<=rows.length)(a:Act)(w:World)(h:Rel K ⟨sl,ow,nx⟩ a w):
  Rel K ⟨(g,.eq (.slice (some ⟨b,0,none⟩) i cap) nx)::sl,(nx,some (.sl e sz fr (rows.take i)))::(q,none)::ow,nx+1⟩ a w:=by
 obtain⟨φ,hφ⟩:=h;obtain⟨_,_,e1⟩:=hφ.slot g _ hg;have e1:φ q= .slice (some ⟨b,0,none⟩) n cap:=e1;obtain⟨xs,hrow,hx,h1,h2⟩:=hφ.own q _ hq;rw[e1]at hrow;obtain⟨hln,hrow⟩:=hrow;rcases hrow with ⟨hv,_⟩|⟨b',cap',cur,hv,hg0,hb,hcap,hmax,hsz,htk⟩;·cases hv
 cases hv;have hxl:=hx.length;have hfl:(rows.take i).flatten=rows.flatten.take (i*sz):=o8 rows i h1 hi;have hlt:(rows.take i).length=i:=(by rw[F0,FO hi]);have hcut: ∀Z,L2 (Rep w Z) xs rows.flatten->dR w Z (.slice (some ⟨b,0,none⟩) i cap) e sz (rows.take i):=by
  intro Z hx;refine⟨xs.take (i*sz),?_,?_,λr hr=>h1 r (FI hr),λr hr=>h2 r (FI hr)⟩
  ·rw[hlt];refine⟨by rw[F0,hln,FO (F7 _ hi)],.inr ⟨b,cap,cur,rfl,hg0,hb,by omega,hmax,hsz,?_⟩⟩;rw[<-htk,HB,FO (F7 _ hi)]
  ·rw[hfl];refine L2.ofGet (by rw[F0,F0,hxl]) λj u c hu hc=> ?_;have hj:j<i*sz:=(by have:=(E8.1 hc).1;rw[F0]at this;omega);rw[GC hj]at hu hc;obtain⟨u',hu',hr⟩:=hx.get hc;rw[hu]at hu';cases hu';exact hr
 have hqx:q<nx:=hφ.inU q _ hq;let φ':Nat->Value:=λj=>if j=nx then .slice (some ⟨b,0,none⟩) i cap else φ j
 have hvb: ∀g',VB (.slice (some ⟨b,0,none⟩) i cap) g'->VB (φ q) g':=λg' h=>(by rw[e1];simpa[VB,aC]using h);have hrel:RelW K ⟨(St.mk sl ow nx).f.slot,aK (St.mk sl ow nx).f.own (some q) nx (.sl e sz fr (rows.take i))⟩ (λj=>j<nx∨j=nx) φ' a w:=by
  refine hφ.step (λb=>VB (φ q) b) (λj=>j=nx∨j=q) Y (λ_ hu=> .inl hu) (λj hj=>by simp only[φ',E4 (Hr hj)]) rfl rfl rfl (EO _) (λb hb hne=>rfl) ?_ ?_ ?_ ?_
  ·intro b _ hb;exact⟨q,_,hq,hb,.inr Y⟩
  ·intro j c hj hc;simp only[aK]at hj;rw[E4 (λe=>hc (.inl e)),E4 (λe=>hc (.inr (E7 e).symm))]at hj;exact hj
  ·intro j c hj hc;have hin:j=nx:=jq hj hc;subst hin;simp only[aK,E6,E9]at hj;subst hj;refine⟨.inr Y,?_,λg' hg'=> ?_⟩
   ·simp only[φ',E6];have:=hcut _ hx;refine aA.mono (Z:=Zf K (St.mk sl ow j).f φ) (c:= .sl e sz fr (rows.take i)) this (λ_ _=>rfl) λf b' hb' _=>⟨?_,rfl⟩;refine⟨⟨hb'.1.1,λo c ho hv=> ?_⟩,hb'.2⟩;by_cases eo:o=j
    ·subst eo;simp only[φ',E6]at hv;exact hb'.1.2 q _ hq (hvb _ hv)
    ·simp only[aK]at ho;rw[E4 eo]at ho;by_cases eq:q=o;·rw[E6 (by rw[eq])]at ho;cases ho
     ·rw[E4 (λe=>eq (E7 e))]at ho;simp only[φ',E4 eo]at hv;exact hb'.1.2 o c ho hv
   ·simp only[φ',E6]at hg';exact .inr ⟨q,_,hq,hvb g' hg',.inr Y⟩
  ·intro j j' c c' g hj hj' hc hc' _ _;rw[jq hj hc,jq hj' hc']
 have hU:(λj=>j<nx∨j=nx)=(· <nx+1):=(by funext j;simp only[eq_iff_iff];omega);rw[hU]at hrel;obtain⟨v,hv⟩:=e6 hφ (g:=g) Y;refine⟨φ',hrel.reslot (sv:= .eq (.slice (some ⟨b,0,none⟩) i cap) nx) hv (by simp[bg,aE,φ']) (by show nx<nx+1;omega) ?_ slot_put⟩;funext j;simp only[aK,St.f,ak];by_cases e1:nx=j;·subst e1;simp
 ·rw[E4 e1,E4 (Ne.symm e1)];by_cases e2:q=j;·subst e2;simp
  ·rw[E4 e2,E4 (λe=>e2 (E7 e))]
end
section
variable {K:Ctx}{ops:Array Oper}{dr:Bool}{o:Oper}{rest:List Oper}{sl:List (Nat×SV)}{ow:List (Nat×Option Own)}{nx:Nat}{R:St->Prop}{d:Nat}
theorem J.rs {t e:TypeId}{x y:Operand}{f1 f2:Bool}{b n cap:Nat}{ky:IntKind}{h:Int}{inf:TypeInfo}(i:Nat)(hh:h=(i:Nat))(hi:i<=cap)(hc:0<cap)(ho:o.op= .slice t x none (some y) none)(hg:wants ops (St.mk sl ow nx).f o=some true)(hd:o.dst=some d)(hlt:K.can d=true)
  (hx:(St.mk sl ow nx).f.get x=some (.val f1 (.raw (.slice (some ⟨b,0,none⟩) n cap)))) (hy:(St.mk sl ow nx).f.get y=some (.val f2 (.int ky h)))
  (hu:K.P.underlying t=some (.slice e)) (hinf:K.P.info? e=some inf) (k:J K ops dr rest ⟨(d,.val true (.raw (.slice (some ⟨b,0,none⟩) i cap)))::sl,ow,nx⟩ R):J K ops dr (o::rest) ⟨sl,ow,nx⟩ R:=by
 subst hh;refine .does hg hd hlt (.gen (xs:=[x,y]) (l:=[.raw (.slice (some ⟨b,0,none⟩) n cap),.int ky i]) ?_ ?_ ?_) k;·rw[ho];simp[Op.operands]
 ·simp[dB,hx,hy,SV.ff]
 ·intro a w hr;cases hr with
  |cons h1 hr=>
  cases hr with
  |cons h2 _=>
  generalize hv1:a.eval x=v1 at h1;generalize hv2:a.eval y=v2 at h2;cases h1;cases h2;refine⟨.slice (some ⟨b,0,none⟩) i cap,?_,λ_=> .raw _ Y⟩;have hb2:(Instr.sliceBounds true n cap none (some (.int ky i)) none).run K.P w= .ok (0,i,cap) w:=by
   have:(0:Int)<=(i:Int)/\(i:Int)<=(cap:Int):=(by omega);simp only[Instr.sliceBounds,EM,Ev,EG];rw[run_sliceBound w ky i cap _ this.1 this.2];rfl
  simp only[execOp,ho,hv1,hv2,EM,Instr.sliceAt,Instr.slice,run_underlying hu,EG,GP,FJ,hb2,aU hinf];rw[E4 (show¬cap=0 by omega)];simp[bE]
theorem J.bzr {t:TypeId}{fs:Array Field}{inf:TypeInfo}{cells:Array Value}{pl:List (Nat×Nat)}(ho:o.op= .build t #[])(hg:wants ops (St.mk sl ow nx).f o=some true)(hd:o.dst=some d)(hlt:K.can d=true)
  (hu:K.P.underlying t=some (.struct fs)) (hi:K.P.info? t=some inf) (hz:inf.zero=some (.agg cells)) (hpl:lX K.P fs=some pl) (h1:(cells.toList.all (·.oneCell'))=true)
  (k:J K ops dr rest ⟨(d,.val true (.agg (cells.toList.map .raw)))::sl,ow,nx⟩ R):J K ops dr (o::rest) ⟨sl,ow,nx⟩ R:=by
 refine .does hg hd hlt (.gen (xs:=[]) (l:=[]) (by simp) rfl ?_) k;intro a w _;refine⟨.agg cells,?_,λZ=> ?_⟩
 ·have hv:(Instr.build t #[]).run K.P w= .ok (.agg cells) w:=by
   refine run_build w t _ cells ?_;simp only[Program.built,hi,hu,hz];have:fs.toList.mapM (λf=>(K.P.info? f.type).map λi=>(f.offset,i.size))=some pl:=hpl;simp only[this];simp[Instr.fill,Value.cells]
  simp[execOp,ho,hv]
 ·have:(Value.agg cells)= .agg cells.toList.toArray:=(by simp);rw[this];refine .agg _ _ ?_ (λp hp=>by obtain⟨v,_,rfl⟩:=EH.1 hp;rfl);have h1:=EN.1 h1;generalize cells.toList=l at h1;clear this
  induction l with
  |nil=>exact .nil
  |cons v l ih=>exact .cons (.raw _ (h1 v (.head _))) (ih λv h=>h1 v (.tail _ h))
end
section
variable {P:Program}{ops:Array Oper}{Q:Exit->Act->World->Prop}
theorem zh {o:Oper}{a:Act}{next X:Act->World->Prop}{r:Result Next}(h:o.upon P a next (Exit.then X Q) r):o.upon P a next Q r:=by
 cases r with
 |ok n w'=>
  cases n with
  |enter f args=>
   refine Calls.mono h λe w' he=> ?_;cases e<;>exact he
  |_=>exact h
 |halt e w'=>cases e<;>exact h
theorem kX {m:List Oper}: ∀(l:List Oper) (a:Act) (w:World),wpList P ops (Exit.then (wpList P ops Q m) Q) l a w->wpList P ops Q (l++m) a w
 | [],a,w,h=>h
 |o::l,a,w,h=>by
  simp only[wpList,Fj]at h⊢;split at h
  ·rename_i hw;rw[E6 hw];rcases h with h|⟨h1,h2⟩;·exact .inl (Oper.wp_mono (λa w hh=>kX l a w hh) (zh h))
   ·exact .inr ⟨h1,h2⟩
  ·rename_i hw;rw[E4 hw];exact kX l _ _ h
end
def Ctx.dfr (K:Ctx)(d:Deferred):Ctx:= { K with df:=d::K.df }
theorem RelW.dfr {K:Ctx}{V:EnvF}{U:Nat->Prop}{φ:Nat->Value}{a:Act}{w:World}(d:Deferred)(h:RelW K V U φ a w):RelW (K.dfr d) V U φ { a with defers:=d::a.defers } w:=
 ⟨by show d::a.defers=d::K.df;rw[h.df],h.sz,h.old,h.kept,h.own,h.mine,h.inU,h.dis,h.slot,h.sin⟩
theorem RelW.undfr {K:Ctx}{V:EnvF}{U:Nat->Prop}{φ:Nat->Value}{a:Act}{w:World}{d:Deferred}(h:RelW (K.dfr d) V U φ a w):RelW K V U φ { a with defers:=K.df } w:=
 ⟨rfl,h.sz,h.old,h.kept,h.own,h.mine,h.inU,h.dis,h.slot,h.sin⟩
structure SpecXD (P:Program)(f:FuncId)(us gs:List Value)(cs ds:List Own)(args:List (Bool×PV))(cs':List Value->List Own)(news:List Value->List Own)(rf:Bool)(res:List Value->List PV):Prop extends SpecX P f us gs cs ds args cs' news rf res where
 outD: ∀(w:World) (Z:Bool->Nat->Prop) (vs:List Value) (u:FrameMode),PreX w Z us gs cs ds args vs->CallsD P f vs.toArray u w λe u' w'=>u'=u/\sW w Z us gs cs' news rf res e w'
theorem SpecXD.body {P:Program} {f:FuncId} {fn:Func} {c:Code} {us gs:List Value} {cs ds:List Own} {cs' news:List Value->List Own} {args:List (Bool×PV)} {rf:Bool} {res:List Value->List PV} (gl hs:List Nat) (hf:P.funcs[f]? =some fn) (hb:fn.body=some c) (hn:(fn.name== "runtime.NumGoroutine")=false) (hl:Nat.ble args.length fn.ntmps=true)
  (h: ∀w0 Z,T (Ctx.ofX P w0 us gs Z fn.ntmps) c (n4 gl us gs cs ds args) (q9 P fn us gl cs' news hs rf res)):SpecXD P f us gs cs ds args cs' news rf res:=
 ⟨SpecX.body gl hs hf hb hn hl h,λw Z vs u hp=>callsD_of_wp hf hb (q9.wp gl hs hl h hp)⟩
theorem RelW.preX {K:Ctx}{sl:List (Nat×SV)}{ow:List (Nat×Option Own)}{nx:Nat}{φ:Nat->Value}{a:Act}{w:World}{us gs:List Value}{cs ds:List Own}{ps:List (Bool×PV)}{vs:List Value}{gl qs:List Nat}(hφ:RelW K (St.mk sl ow nx).f (· <nx) φ a w)
  (hul:us.length=cs.length) (hq:kU (St.mk sl ow nx).f gl (us++gs) (cs++ds) qs) (hdup:dup qs=false) (hvs:L2 (λv (p:Bool×PV)=>Rep w (Zf K (St.mk sl ow nx).f φ p.1) v p.2) vs ps):PreX w (Zf K (St.mk sl ow nx).f φ) us gs cs ds ps vs:=by
 obtain⟨⟨hl1,hl2⟩,hat⟩:=iv hq;have hval: ∀(i q:Nat) (u:Value),qs[i]? =some q->(us++gs)[i]? =some u->φ q=u:=by
  intro i q u h1 h2;obtain⟨u',c,c2,g,h3,_,_,_,_,h5⟩:=hat i q h1;rw[h2]at h3;cases h3;obtain⟨_,_,e⟩:=hφ.slot g _ h5;exact e
 have hinj:=fW qs hdup;have hget: ∀(i:Nat) u,(us++gs)[i]? =some u->∃q,qs[i]? =some q/\φ q=u/\∃c,(St.mk sl ow nx).f.own q=some c:=λi u hu=>by
  have hil:i<qs.length:=(by have:=(E8.1 hu).1;omega);obtain⟨_,_,c2,_,_,_,h,_⟩:=hat i _ (E5 hil);exact⟨qs[i],E5 hil,hval i _ u (E5 hil) hu,c2,h⟩
 have tf: ∀b,Zf K (St.mk sl ow nx).f φ true b->Zf K (St.mk sl ow nx).f φ false b:=λb hb=>⟨hb.1,λe=>by cases e⟩;have hown: ∀(i:Nat) u c,(us++gs)[i]? =some u->(cs++ds)[i]? =some c->aA w (Zf K (St.mk sl ow nx).f φ) u c:=by
  intro i u c h1 h2;have hil:i<qs.length:=(by have:=(E8.1 h1).1;omega);obtain⟨u',c',c2,g,h3,h4,h5,h6,h7,_⟩:=hat i _ (E5 hil);rw[h1]at h3;cases h3;rw[h2]at h4;cases h4;have ho2:=hφ.own _ _ h5;rw[hval i _ u (E5 hil) h1]at ho2;exact mY ho2 h6 h7 tf λ_ hb=>hb
 have hgl:gs.length=ds.length:=(by rw[EZ,EZ]at hl1;omega);refine⟨tf,L2.ofGet hul λi u c h1 h2=> ?_,L2.ofGet hgl λi u c h1 h2=> ?_,?_,?_,hvs⟩
 ·have e1:=(E8.1 h1).1;exact hown i u c (by rw[FE e1];exact h1) (by rw[FE (by omega)];exact h2)
 ·exact hown (us.length+i) u c (by rw[F1 (by omega),FW];exact h1) (by rw[F1 (by omega),hul,FW];exact h2)
 ·intro i j u v g h1 h2 hg1 hg2;obtain⟨q,h3,rfl,c,h5⟩:=hget i u h1;obtain⟨q',h4,rfl,c',h6⟩:=hget j v h2;have:=hφ.dis _ _ c c' g h5 h6 hg1 hg2;exact hinj i j _ h3 (by rw[this];exact h4)
 ·intro b hb u hu;obtain⟨i,hi⟩:=EK hu;obtain⟨q,_,rfl,c,hc⟩:=hget i u hi;exact hb.1.2 q c hc
def yr (E:St)(hs:List Nat)(ns:List Value)(us:List Value)(qs:List Nat)(cs' news:List Value->List Own):St:=⟨oc E.nx hs ns E.sl,iM E.nx (news ns) (iF (qs.take us.length) (cs' ns) (iL (qs.drop us.length) E.ow)),E.nx+(news ns).length⟩
theorem SpecX.bodyD {P:Program}{f fd:FuncId}{fn:Func}{c1 c2:Code}{id:Nat}{ops:Array Oper}{o:Oper}{x:Operand}{tys:Array TypeId}{us gs:List Value}{cs ds:List Own}{cs' news:List Value->List Own}{args:List (Bool×PV)}{σ τ:Type}{E1 E2:σ->St}{E3:τ->St}{v:Value}{fx:Bool}
  {us2:List Value} {gs2:τ->List Value} {cs2:τ->List Own} {ds2:τ->List Own} {cs2':τ->List Value->List Own} {news2:τ->List Value->List Own} {res2:List Value->List PV}
  (k:Nat) (gl hs gl2 hs2 qs2:List Nat) (hf:P.funcs[f]? =some fn) (hb:fn.body=some (c1.seq ((Code.region id ops false).seq c2))) (hn:(fn.name== "runtime.NumGoroutine")=false) (hl:Nat.ble args.length fn.ntmps=true) (hres:fn.results.toList=[])
  (hops:ops.toList.drop k=[o]) (ho:o.op= .defer { callee:= .value (.func fd),args:= #[x],argTypes:=tys }) (hgd:o.guard=none) (hod:o.dst=none)
  (h1: ∀w0 Z,T (Ctx.ofX P w0 us gs Z fn.ntmps) c1 (n4 gl us gs cs ds args) λe E=>e= .normal/\∃s,E=E1 s)
  (h2: ∀w0 Z s,J (Ctx.ofX P w0 us gs Z fn.ntmps) ops false (ops.toList.take k) (E1 s) λE=>E=E2 s)
  (hx: ∀s,(E2 s).f.get x=some (.val fx (.raw v)))
  (h3: ∀w0 Z s,T ((Ctx.ofX P w0 us gs Z fn.ntmps).dfr { target:= .fn (.func fd) #[],args:= #[v] }) c2 (E2 s) λe E=>(e= .normal∨e= .ret)/\∃t,E=E3 t)
  (hB: ∀t,SpecXD P fd us2 (gs2 t) (cs2 t) (ds2 t) [(true,.raw v)] (cs2' t) (news2 t) true res2) (hv:v.oneCell'=true) (hq: ∀t,kU (E3 t).f gl2 (us2++gs2 t) (cs2 t++ds2 t) qs2) (hul: ∀t,us2.length=(cs2 t).length) (hdup:dup qs2=false)
  (hfin: ∀t ns,ns.length=(news2 t ns).length->q9 P fn us gl cs' news hs true (λ_=>[]) .ret (yr (E3 t) hs2 ns us2 qs2 (cs2' t) (news2 t))):SpecX P f us gs cs ds args cs' news true (λ_=>[]):=by
 refine⟨⟨fn,hf,by rw[hb];rfl,hn⟩,λw Z vs hp=>calls_of_wp_defers hf hb ?_⟩;have hrel:=hp.rel (P:=P) (n:=fn.ntmps) gl (F3 hl);refine wp_seq (wp_mono ((h1 w Z).out _ w hrel) λe a1 w1 ⟨_,E,⟨he,s,hE⟩,hr1⟩=> ?_);subst he hE;show((Code.region id ops false).seq c2).wp P _ a1 w1;refine wp_seq (wp_region_list ?_);rw[<-GA k ops.toList,hops];refine kX _ _ _ ((h2 w Z s).out.out a1 w1 _ hr1 λE a2 w2 hE hr2=> ?_);subst hE;show wpList P ops _ [o] a2 w2;obtain⟨φ,hφ⟩:=hr2;obtain⟨hrx,_⟩:=ah hφ (hx s);have hvx:a2.eval x=v:=by
  generalize a2.eval x=y at hrx;cases hrx;rfl
 unfold wpList;rw[E6 (by simp[Region.wanted,hgd])];refine .inl ?_;have hrun:(execOp a2.eval o).run P w2= .ok (.defer { target:= .fn (.func fd) #[],args:= #[v] }) w2:=by
  simp[execOp,ho,resolve,show a2.eval (.func fd)= .func (.func fd) #[] #[]from rfl,Deferred.ofValue,hvx]
 unfold Oper.wp;rw[hrun,Oper.upon_defer,hod];show c2.wp P _ { a2 with defers:=_::a2.defers } w2;have hφ2:=hφ.dfr { target:= .fn (.func fd) #[],args:= #[v] };refine wp_mono ((h3 w Z s).out _ w2 ⟨φ,hφ2⟩) λe a3 w3 ⟨_,E,⟨he,t,hE⟩,hr3⟩=> ?_;subst hE;obtain⟨ψ,hψ⟩:=hr3;have key:Leaves P fn a3.tmps (sW w Z us gs cs' news true λ_=>[]) a3.defers .returning w3:=by
  rw[hψ.df];have hpre:=hψ.preX (ps:=[(true,.raw v)]) (vs:=[v]) (hul t) (hq t) hdup (.cons (.raw v hv) .nil);obtain⟨fd',hfd,hfb,hfn⟩:=(hB t).isFn;refine leaves_cons (args:= #[v]) (by simp) ?_ (((hB t).outD w3 _ [v] .returning hpre).mono ?_)
  ·have hbb:fd'.body.isNone=false:=(by cases hfb2:fd'.body<;>simp_all);simp only[invoke,callFunc,EM,run_program,hfd,hfn,hbb,FC,if_false,Ev,EG];rfl
  ·rintro e u' w' ⟨rfl,hpost⟩;obtain⟨rs,ns,rfl,hnl,hkl,hrel,_⟩:=hψ.callX (hul t) (hq t) hdup hpost;show Leaves P fn a3.tmps _ [] .returning w';have hslot:RelW (Ctx.ofX P w us gs Z fn.ntmps) (yr (E3 t) hs2 ns us2 qs2 (cs2' t) (news2 t)).f (· <(yr (E3 t) hs2 ns us2 qs2 (cs2' t) (news2 t)).nx) (bQ ψ (E3 t).nx ns) { a3 with defers:=[] } w':=by
    have h0:=hrel.undfr;refine⟨rfl,h0.sz,h0.old,h0.kept,h0.own,h0.mine,h0.inU,h0.dis,?_,?_⟩
    ·intro s sv' hs';rcases lk_eqsOn hs2 ns (E3 t).nx s sv' hs' with ⟨j,u,h4,h5,rfl⟩|h4
     ·refine⟨_,rfl,?_⟩;have hj:=(E8.1 h5).1;show bQ ψ (E3 t).nx ns ((E3 t).nx+j)=u;simp only[bQ];rw[E6 (by omega),E0,FW,h5];rfl
     ·exact h0.slot s sv' h4
    ·intro s sv' hs';rcases lk_eqsOn hs2 ns (E3 t).nx s sv' hs' with ⟨j,u,h4,h5,rfl⟩|h4
     ·have:=(E8.1 h5).1;show(E3 t).nx+j<(E3 t).nx+(news2 t ns).length;omega
     ·exact h0.sin s sv' h4
   obtain⟨r,h5,h6⟩:=q9.post (fn:=fn) hp.tf hslot (hfin t ns hnl);exact⟨r,h5,h6⟩
 rcases he with rfl|rfl;·exact key
 ·exact key
theorem u6 {w:World}{Z:Nat->Prop}: ∀(l:List Value),(l.all (·.oneCell'))=true->L2 (Rep w Z) l (l.map .raw)
 | [],_=> .nil
 |v::l,h=>by
  simp only[Gn,EL]at h;exact .cons (.raw v h.1) (u6 l h.2)
theorem J.alr {K:Ctx}{ops:Array Oper}{dr:Bool}{o:Oper}{rest:List Oper}{sl:List (Nat×SV)}{ow:List (Nat×Option Own)}{nx:Nat}{R:St->Prop}{d:Nat}{t:TypeId}{inf:TypeInfo}{z:Value}(ho:o.op= .alloc t)(hg:wants ops (St.mk sl ow nx).f o=some true)(hd:o.dst=some d)(hlt:K.can d=true)
  (hi:K.P.info? t=some inf) (hz:inf.zero=some z) (h1:(z.cells.toList.all (·.oneCell'))=true)
  (k:J K ops dr rest ⟨(d,.ref nx)::sl,(nx,some (.box true (z.cells.toList.map .raw)))::ow,nx+1⟩ R):J K ops dr (o::rest) ⟨sl,ow,nx⟩ R:=by
 refine .does hg hd hlt (.genO (xs:=[]) (l:=[]) (by simp) rfl ?_) k;intro a w _;have hti:(typeInfo t).run K.P w= .ok inf w:=(by simp[typeInfo,hi]);have hzv:(zeroValue t).run K.P w= .ok z w:=by
  simp only[zeroValue,EM,hti,EG,hz,Ev]
 have hrun:(execOp a.eval o).run K.P w= .ok (.value (.pointer (some ⟨w.heap.size,0,none⟩))) (w.alloc (.cells z.cells t)):=by
  simp only[execOp,ho,Instr.alloc,newVar,newRow,EM,hzv,run_newObj,EG];rfl
 refine⟨_,_,hrun,cT w _,λZ=>⟨w.heap.size,t,z.cells,rfl,heap_alloc_new w _,u6 _ h1,λp hp=> ?_⟩,λg hg=>by simp[VB,aC]at hg;omega⟩;obtain⟨v,_,rfl⟩:=EH.1 hp;rfl
theorem Rel.frzM {K:Ctx}{sl:List (Nat×SV)}{ow:List (Nat×Option Own)}{nx:Nat}{s o:Nat}{e:TypeId}{sz:Nat}{fr:Bool}{rows:List (List PV)}(hs:lk sl s=some (.ref o))(ho:(St.mk sl ow nx).f.own o=some (.sl e sz fr rows))(a:Act)(w:World)(hM: ∀φ,RelW K (St.mk sl ow nx).f (· <nx) φ a w->∀g,VB (φ o) g->¬K.M g)(h:Rel K ⟨sl,ow,nx⟩ a w):
  Rel K ⟨(s,.val fr (.sl rows))::sl,(o,none)::ow,nx⟩ a w:=by
 obtain⟨φ,hφ⟩:=h;have hown': ∀q c,(St.mk ((s,.val fr (.sl rows))::sl) ((o,none)::ow) nx).f.own q=some c->q≠o/\(St.mk sl ow nx).f.own q=some c:=by
  intro q c hq;simp only[St.f,ak]at hq;by_cases e:o=q;·rw[E6 e]at hq;cases hq
  ·rw[E4 e]at hq;exact⟨Ne.symm e,hq⟩
 have hZ: ∀f b,Zf K (St.mk sl ow nx).f φ f b->Zf K (St.mk ((s,.val fr (.sl rows))::sl) ((o,none)::ow) nx).f φ f b:=
  λf b hb=>⟨⟨hb.1.1,λq c hq=>hb.1.2 q c (hown' q c hq).2⟩,hb.2⟩
 refine⟨φ,hφ.df,hφ.sz,hφ.old,hφ.kept,?_,?_,?_,?_,?_,?_⟩
 ·intro q c hq;exact(hφ.own q c (hown' q c hq).2).mono (λ_ _=>rfl) λf b hb _=>⟨hZ f b hb,rfl⟩
 ·intro q c g hq;exact hφ.mine q c g (hown' q c hq).2
 ·intro q c hq;exact hφ.inU q c (hown' q c hq).2
 ·intro q q' c c' g hq hq';exact hφ.dis q q' c c' g (hown' q c hq).2 (hown' q' c' hq').2
 ·intro t sv hsv;rcases slot_put t sv hsv with ⟨rfl,rfl⟩|⟨_,h⟩
  ·obtain⟨v,hv,hr⟩:=hφ.slot t _ hs;refine⟨v,hv,?_⟩;simp only[bg,aE]at hr;subst hr;obtain⟨xs,hwn,hl,h1,h2⟩:=hφ.own o _ ho;have hl':L2 (Rep w (Zf K (St.mk ((t,.val fr (.sl rows))::sl) ((o,none)::ow) nx).f φ fr)) xs rows.flatten:=Rep.monoL (λb hb _=>⟨hZ fr b hb,rfl⟩) hl;have hcell:=λg hg=>hwn.cells (g:=g) hg;have hlt:=hwn.lt;rcases hwn.2 with ⟨hv0,hn⟩|⟨g,cap,cur,hv0,_,hgc,hnc,hcm,_⟩
   ·show Rep w _ (φ o) (.sl rows);rw[hv0];have:rows=[]:=EQ hn;subst this;exact .nilsl
   ·show Rep w _ (φ o) (.sl rows);have hm:=hφ.mine o _ g ho (by rw[hv0];exact .inl Y);have hge:K.w0.heap.size<=g:=hm.resolve_right (hM φ hφ g (by rw[hv0];exact .inl Y));rw[hv0]at hcell hlt⊢;refine .sl g 0 cap sz rows xs ⟨⟨.inl hge,λq c hq hvq=> ?_⟩,λ_=>K.hF _ hge⟩ (hlt g Y).2 h1 h2 (λj v hj=> ?_) hnc hcm hl'
    ·obtain⟨hne,hq'⟩:=hown' q c hq;exact hne (hφ.dis q o c _ g hq' ho hvq (by rw[hv0];exact .inl Y))
    ·have:=hcell g Y j v hj;rw[bE]at this;exact ce hgc this
  ·obtain⟨v,hv,hr⟩:=hφ.slot t sv h;exact⟨v,hv,hr.mono (hφ.sin t sv h) (λf b hb _=>⟨hZ f b hb,rfl⟩) (λ_ _=>rfl)⟩
 ·intro t sv hsv;rcases slot_put t sv hsv with ⟨rfl,rfl⟩|⟨_,h⟩;·trivial
  ·exact hφ.sin t sv h
def C0 (E:EnvF)(o:Nat)(u:Value):Prop:=u= .slice none 0 0∨∃s q c,E.slot s=some (.eq u q)/\E.own q=some c/\q≠o
def xF (E:EnvF)(o:Nat):List Value->Prop
 | []=>True
 |u::us=>C0 E o u/\xF E o us
theorem notIns_mem {E:EnvF}{o:Nat}: ∀{us:List Value},xF E o us->∀u∈us,C0 E o u
 | [],_,u,h=>by cases h
 |v::us,h,u,hu=>by
  rcases ET.1 hu with rfl|hu;·exact h.1
  ·exact notIns_mem h.2 u hu
theorem Rel.frzX {P:Program}{w0:World}{us gs:List Value}{Z:Bool->Nat->Prop}{n:Nat}{sl:List (Nat×SV)}{ow:List (Nat×Option Own)}{nx:Nat}{s o:Nat}{e:TypeId}{sz:Nat}{fr:Bool}{rows:List (List PV)}(hs:lk sl s=some (.ref o))(ho:(St.mk sl ow nx).f.own o=some (.sl e sz fr rows))(hn:xF (St.mk sl ow nx).f o (us++gs))(a:Act)(w:World)(h:Rel (Ctx.ofX P w0 us gs Z n) ⟨sl,ow,nx⟩ a w):
  Rel (Ctx.ofX P w0 us gs Z n) ⟨(s,.val fr (.sl rows))::sl,(o,none)::ow,nx⟩ a w:=by
 refine Rel.frzM hs ho a w (λφ hφ g hg hM=> ?_) h;obtain⟨u,hu,hug⟩:=hM;rcases notIns_mem hn u hu with rfl|⟨s2,q,c,h1,h2,h3⟩;·simp[VB,aC]at hug
 ·obtain⟨_,_,e⟩:=hφ.slot s2 _ h1;have e:φ q=u:=e;exact h3 (hφ.dis q o c _ g h2 ho (by rw[e];exact hug) hg)
theorem J.mk0 {K:Ctx}{ops:Array Oper}{dr:Bool}{o:Oper}{rest:List Oper}{sl:List (Nat×SV)}{ow:List (Nat×Option Own)}{nx:Nat}{R:St->Prop}{d:Nat}{t e:TypeId}{x y:Operand}{fl fc:Bool}{kl kc:IntKind}{N2:Int}{inf:TypeInfo}{z:Value}{B sz:Nat}(n:Nat)
  (hN2:N2=(n:Nat)) (hby:B*n<=281474976710656) (hn:n<=9223372036854775807) (ho:o.op= .makeSlice t x y) (hg:wants ops (St.mk sl ow nx).f o=some true) (hd:o.dst=some d) (hlt:K.can d=true) (hx:(St.mk sl ow nx).f.get x=some (.val fl (.int kl 0))) (hy:(St.mk sl ow nx).f.get y=some (.val fc (.int kc N2)))
  (hu:K.P.underlying t=some (.slice e)) (hi:K.P.info? e=some inf) (hz:inf.zero=some z) (hs:inf.size=sz) (hB:inf.bytes=B)
  (k:J K ops dr rest ⟨(d,.ref nx)::sl,(nx,some (.sl e sz true []))::ow,nx+1⟩ R):J K ops dr (o::rest) ⟨sl,ow,nx⟩ R:=by
 refine .does hg hd hlt (.genO (xs:=[x,y]) (l:=[.int kl 0,.int kc N2]) ?_ ?_ ?_) k
 ·intro v hv;rw[ho];simpa[Op.operands]using hv
 ·simp only[dB,hx,hy,SV.ff]
 ·intro a w hl;obtain⟨v1,v2,e1,h2,h3⟩: ∃v1 v2,[x,y].map a.eval=[v1,v2]/\v1= .int kl 0/\v2= .int kc N2:=by
   cases hl with
   |cons h1 h2=>cases h2 with
    |cons h2 _=>exact⟨_,_,rfl,cX h1,cX h2⟩
  simp only[Ek,Gx,List.cons.injEq,and_true]at e1;obtain⟨e1,e2⟩:=e1;have hb':(inf.bytes:Int)*(n:Int)<=281474976710656:=by
   have h:((inf.bytes*n:Nat):Int)<=281474976710656:=(by rw[hB];exact Int.ofNat_le.2 hby);rwa[ID]at h
  have hrun:=run_make (P:=K.P) w t e inf z hu hi hz kl kc 0 n (FS _) (Gg _) hb' (Int.ofNat_le.2 hn);simp only[Int.toNat_zero,Eo]at hrun;refine⟨.slice (some ⟨w.heap.size,0,none⟩) 0 n,w.alloc (.cells (madeCells z.cells (n*inf.size)) e),?_,cT w _,λZ=>⟨[],?_,.nil,by simp,by simp⟩,λg hg=>by simp[VB,aC]at hg;omega⟩
  ·simp only[execOp,ho,EM,e1,e2,h2,h3,hN2,hrun,EG];rfl
  ·rw[hs];exact World.ownsRow_made w _ n (Er _) hn (size_madeCells _ _)
theorem Rel.cellF {K:Ctx}{sl:List (Nat×SV)}{ow:List (Nat×Option Own)}{nx:Nat}(g k:Nat){q n:Nat}{frb fr:Bool}{row:List PV}{e:TypeId}{sz:Nat}{rows:List (List PV)}{u:Value}(hM: ∀b,¬K.M b)(hq:(St.mk sl ow nx).f.own q=some (.box frb row))(hk:row[k]? =some (.raw u))(hg:lk sl g=some (.eq u n))(hn:(St.mk sl ow nx).f.own n=some (.sl e sz fr rows))(hne:Nat.beq n q=false)(a:Act)(w:World)(h:Rel K ⟨sl,ow,nx⟩ a w):
  Rel K ⟨sl,(q,some (.box (frb&&fr) (row.set k (.sl rows))))::(n,none)::ow,nx⟩ a w:=by
 obtain⟨φ,hφ⟩:=h;have hne':n≠q:=λe=>(by subst e;simp at hne);obtain⟨_,_,eu⟩:=hφ.slot g _ hg;have eu:φ n=u:=eu;have hown': ∀i c,(St.mk sl ((n,none)::ow) nx).f.own i=some c->i≠n/\(St.mk sl ow nx).f.own i=some c:=by
  intro i c hq;simp only[St.f,ak]at hq;by_cases e:n=i;·rw[E6 e]at hq;cases hq
  ·rw[E4 e]at hq;exact⟨Ne.symm e,hq⟩
 have hZ: ∀f b,Zf K (St.mk sl ow nx).f φ f b->Zf K (St.mk sl ((n,none)::ow) nx).f φ f b:=
  λf b hb=>⟨⟨hb.1.1,λi c hq=>hb.1.2 i c (hown' i c hq).2⟩,hb.2⟩
 have h1:RelW K (St.mk sl ((n,none)::ow) nx).f (· <nx) φ a w:=by
  refine⟨hφ.df,hφ.sz,hφ.old,hφ.kept,?_,?_,?_,?_,?_,hφ.sin⟩
  ·intro i c hq;exact(hφ.own i c (hown' i c hq).2).mono (λ_ _=>rfl) λf b hb _=>⟨hZ f b hb,rfl⟩
  ·intro i c g hq;exact hφ.mine i c g (hown' i c hq).2
  ·intro i c hq;exact hφ.inU i c (hown' i c hq).2
  ·intro i i' c c' g hq hq';exact hφ.dis i i' c c' g (hown' i c hq).2 (hown' i' c' hq').2
  ·intro t sv h;obtain⟨v,hv,hr⟩:=hφ.slot t sv h;exact⟨v,hv,hr.mono (hφ.sin t sv h) (λf b hb _=>⟨hZ f b hb,rfl⟩) (λ_ _=>rfl)⟩
 have hfz:Rep w (Zf K (St.mk sl ((n,none)::ow) nx).f φ fr) u (.sl rows):=by
  obtain⟨xs,hwn,hxl,h2,h3⟩:=hφ.own n _ hn;rw[eu]at hwn;have hl':L2 (Rep w (Zf K (St.mk sl ((n,none)::ow) nx).f φ fr)) xs rows.flatten:=Rep.monoL (λb hb _=>⟨hZ fr b hb,rfl⟩) hxl;have hcell:=λg hg=>hwn.cells (g:=g) hg;have hlt:=hwn.lt;rcases hwn.2 with ⟨hv0,hn0⟩|⟨b,cap,cur,hv0,_,hgc,hnc,hcm,_⟩
  ·rw[hv0];have:rows=[]:=EQ hn0;subst this;exact .nilsl
  ·have hvbp:VB (φ n) b:=(by rw[eu,hv0];exact .inl Y);have hm:=hφ.mine n _ b hn hvbp;have hge:K.w0.heap.size<=b:=hm.resolve_right (hM b);rw[hv0]at hcell hlt⊢;refine .sl b 0 cap sz rows xs ⟨⟨.inl hge,λi c hq hvq=> ?_⟩,λ_=>K.hF _ hge⟩ (hlt b Y).2 h2 h3 (λj v hj=> ?_) hnc hcm hl'
   ·obtain⟨hne,hq'⟩:=hown' i c hq;exact hne (hφ.dis i n c _ b hq' hn hvq hvbp)
   ·have:=hcell b Y j v hj;rw[bE]at this;exact ce hgc this
 have hq':(St.mk sl ((n,none)::ow) nx).f.own q=some (.box frb row):=by
  simp only[St.f,ak];rw[E4 hne'];exact hq
 refine⟨φ,h1.reown hq' ?_⟩;obtain⟨b,t,cur,e0,hh,hl,ho1⟩:=h1.own q _ hq';refine⟨b,t,cur,e0,hh,L2.ofGet (by simpa using hl.length) λi v p hi hp=> ?_,λp hp=> ?_⟩
 ·by_cases hik:i=k
  ·subst hik;obtain⟨p',hp',hr⟩:=hl.getl hi;rw[hk]at hp';cases hp';have hlt:=(E8.1 hk).1;rw[F2 hlt]at hp;cases hp;cases hr;exact hfz.weak (by simp)
  ·rw[Et (Ne.symm hik)]at hp;obtain⟨p',hp',hr⟩:=hl.getl hi;rw[hp]at hp';cases hp';exact hr.weak (by simp;exact λh _=>h)
 ·rcases EV hp with h|rfl;·exact ho1 p h
  ·rfl
theorem J.br {K:Ctx}{ops:Array Oper}{dr:Bool}{o:Oper}{rest:List Oper}{sl:List (Nat×SV)}{ow:List (Nat×Option Own)}{nx:Nat}{R:St->Prop}{d:Nat}{t:TypeId}{parts:Array (Nat×Operand)}{l:List SV}(ho:o.op= .build t parts)(hg:wants ops (St.mk sl ow nx).f o=some true)(hd:o.dst=some d)(hlt:K.can d=true)
  (hb:fZ K.P (St.mk sl ow nx).f t parts.toList=some l) (k:J K ops dr rest ⟨(d,.tupB true l)::sl,ow,nx⟩ R):J K ops dr (o::rest) ⟨sl,ow,nx⟩ R:= .does hg hd hlt (.buildR ho hb) k
def A6 (E:EnvF)(nm:List (Nat×Nat)):List SV->Option (Bool×List PV)
 | []=>some (true,[])
 |s::l=>match(match s with
   | .val fr p=>match p.one with
    |true=>some (fr,p)
    |false=>none
   | .nilsl=>some (true,.sl [])
   | .ref o=>match lk nm o with
    |some g=>match E.slot g,E.own o with
     |some (.eq u o2),some (.sl ..)=>match Nat.beq o2 o with
      |true=>some (true,.raw u)
      |false=>none
     |_,_=>none
    |none=>none
   |_=>none),A6 E nm l with
  |some (f,p),some (fr,ps)=>some (f&&fr,p::ps)
  |_,_=>none
theorem pG {K:Ctx}{E:EnvF}{U:Nat->Prop}{φ:Nat->Value}{a:Act}{w:World}(h:RelW K E U φ a w){nm:List (Nat×Nat)}: ∀(l:List SV) (vs:List Value) (fr:Bool) (ps:List PV),A6 E nm l=some (fr,ps)->L2 (aE w (Zf K E φ) φ) vs l->L2 (Rep w (Zf K E φ fr)) vs ps/\∀p∈ps,p.one=true
 | [],_,fr,ps,hr,.nil=>by
  simp only[A6,E9,Prod.mk.injEq]at hr;obtain⟨rfl,rfl⟩:=hr;exact⟨.nil,by simp⟩
 |s::l,v::vs,fr,ps,hr,.cons hv hvs=>by
  simp only[A6]at hr;split at hr
  ·rename_i f p fr2 ps2 h1 h2;simp only[E9,Prod.mk.injEq]at hr;obtain⟨rfl,rfl⟩:=hr;obtain⟨h3,h4⟩:=pG h l vs fr2 ps2 h2 hvs;have key:Rep w (Zf K E φ f) v p/\p.one=true:=by
    split at h1
    ·rename_i fr p0;split at h1
     ·rename_i h5;simp only[E9,Prod.mk.injEq]at h1;obtain⟨rfl,rfl⟩:=h1;exact⟨hv,h5⟩
     ·cases h1
    ·simp only[E9,Prod.mk.injEq]at h1;obtain⟨rfl,rfl⟩:=h1;have hv:v= .slice none 0 0:=hv;exact⟨by rw[hv];exact .nilsl,rfl⟩
    ·rename_i o;split at h1
     ·rename_i g hg;split at h1
      ·rename_i u o2 e sz frr rows h5 h6;split at h1
       ·rename_i h7;simp only[E9,Prod.mk.injEq]at h1;obtain⟨rfl,rfl⟩:=h1;obtain rfl:=FT h7;have hv:v=φ o2:=hv;obtain⟨_,_,e1⟩:=h.slot g _ h5;have e1:φ o2=u:=e1;rw[hv,e1];refine⟨.raw u ?_,rfl⟩;obtain⟨xs,hrow,_⟩:=h.own o2 _ h6;rw[e1]at hrow;rcases hrow.2 with ⟨hv,_⟩|⟨g,cap,cur,hv,_⟩<;>rw[hv]<;>rfl
       ·cases h1
      ·cases h1
     ·cases h1
    ·cases h1
   refine⟨.cons (key.1.weak (by cases f<;>simp)) (h3.imp λ_ _ h=>h.weak (by cases f<;>cases fr2<;>simp)),λq hq=> ?_⟩;cases hq with
   |head=>exact key.2
   |tail _ hq=>exact h4 q hq
  ·cases hr
theorem Rel.agraw {K:Ctx}{sl:List (Nat×SV)}{ow:List (Nat×Option Own)}{nx:Nat}{s:Nat}{l:List SV}{fr:Bool}{ps:List PV}(nm:List (Nat×Nat))(hs:lk sl s=some (.tupB true l))(hr:A6 (St.mk sl ow nx).f nm l=some (fr,ps))(a:Act)(w:World)(h:Rel K ⟨sl,ow,nx⟩ a w):Rel K ⟨(s,.val fr (.agg ps))::sl,ow,nx⟩ a w:=by
 obtain⟨φ,hφ⟩:=h;obtain⟨v,hv,vs,e,hl⟩:=hφ.slot s _ hs;obtain⟨h1,h2⟩:=pG hφ l vs fr ps hr hl;refine⟨φ,hφ.reslot (sv:= .val fr (.agg ps)) hv ?_ trivial Y slot_put⟩;have e:v= .agg vs.toArray:=e;rw[e];exact .agg _ _ h1 h2
def A5 (E:EnvF)(nm:List (Nat×Nat)):List SV->Option (Bool×List PV)
 | []=>some (true,[])
 |s::l=>match(match s with
   | .val fr p=>match p.one with
    |true=>some (fr,p)
    |false=>none
   | .nilsl=>some (true,.raw (.slice none 0 0))
   | .ref o=>match lk nm o with
    |some g=>match E.slot g,E.own o with
     |some (.eq u o2),some (.sl ..)=>match Nat.beq o2 o with
      |true=>some (true,.raw u)
      |false=>none
     |_,_=>none
    |none=>none
   |_=>none),A5 E nm l with
  |some (f,p),some (fr,ps)=>some (f&&fr,p::ps)
  |_,_=>none
theorem pF {K:Ctx}{E:EnvF}{U:Nat->Prop}{φ:Nat->Value}{a:Act}{w:World}(h:RelW K E U φ a w){nm:List (Nat×Nat)}: ∀(l:List SV) (vs:List Value) (fr:Bool) (ps:List PV),A5 E nm l=some (fr,ps)->L2 (aE w (Zf K E φ) φ) vs l->L2 (Rep w (Zf K E φ fr)) vs ps/\∀p∈ps,p.one=true
 | [],_,fr,ps,hr,.nil=>by
  simp only[A5,E9,Prod.mk.injEq]at hr;obtain⟨rfl,rfl⟩:=hr;exact⟨.nil,by simp⟩
 |s::l,v::vs,fr,ps,hr,.cons hv hvs=>by
  simp only[A5]at hr;split at hr
  ·rename_i f p fr2 ps2 h1 h2;simp only[E9,Prod.mk.injEq]at hr;obtain⟨rfl,rfl⟩:=hr;obtain⟨h3,h4⟩:=pF h l vs fr2 ps2 h2 hvs;have key:Rep w (Zf K E φ f) v p/\p.one=true:=by
    split at h1
    ·rename_i fr p0;split at h1
     ·rename_i h5;simp only[E9,Prod.mk.injEq]at h1;obtain⟨rfl,rfl⟩:=h1;exact⟨hv,h5⟩
     ·cases h1
    ·simp only[E9,Prod.mk.injEq]at h1;obtain⟨rfl,rfl⟩:=h1;have hv:v= .slice none 0 0:=hv;exact⟨by rw[hv];exact .raw _ Y,rfl⟩
    ·rename_i o;split at h1
     ·rename_i g hg;split at h1
      ·rename_i u o2 e sz frr rows h5 h6;split at h1
       ·rename_i h7;simp only[E9,Prod.mk.injEq]at h1;obtain⟨rfl,rfl⟩:=h1;obtain rfl:=FT h7;have hv:v=φ o2:=hv;obtain⟨_,_,e1⟩:=h.slot g _ h5;have e1:φ o2=u:=e1;rw[hv,e1];refine⟨.raw u ?_,rfl⟩;obtain⟨xs,hrow,_⟩:=h.own o2 _ h6;rw[e1]at hrow;rcases hrow.2 with ⟨hv,_⟩|⟨g,cap,cur,hv,_⟩<;>rw[hv]<;>rfl
       ·cases h1
      ·cases h1
     ·cases h1
    ·cases h1
   refine⟨.cons (key.1.weak (by cases f<;>simp)) (h3.imp λ_ _ h=>h.weak (by cases f<;>cases fr2<;>simp)),λq hq=> ?_⟩;cases hq with
   |head=>exact key.2
   |tail _ hq=>exact h4 q hq
  ·cases hr
theorem Rel.agrawZ {K:Ctx}{sl:List (Nat×SV)}{ow:List (Nat×Option Own)}{nx:Nat}{s:Nat}{l:List SV}{fr:Bool}{ps:List PV}(nm:List (Nat×Nat))(hs:lk sl s=some (.tupB true l))(hr:A5 (St.mk sl ow nx).f nm l=some (fr,ps))(a:Act)(w:World)(h:Rel K ⟨sl,ow,nx⟩ a w):Rel K ⟨(s,.val fr (.agg ps))::sl,ow,nx⟩ a w:=by
 obtain⟨φ,hφ⟩:=h;obtain⟨v,hv,vs,e,hl⟩:=hφ.slot s _ hs;obtain⟨h1,h2⟩:=pF hφ l vs fr ps hr hl;refine⟨φ,hφ.reslot (sv:= .val fr (.agg ps)) hv ?_ trivial Y slot_put⟩;have e:v= .agg vs.toArray:=e;rw[e];exact .agg _ _ h1 h2
end Go.Proofs.YtopcjbahjjhdmaaGreat
namespace Go.Proofs.YtopcjbahjjhdmaaGreat
open Go Go.RowKit
open Go.ChangeMaps (setBlock)
set_option linter.unusedVariables false
set_option linter.unusedSimpArgs false
section
variable {K:Ctx}{ops:Array Oper}{dr:Bool}{o:Oper}{rest:List Oper}{sl:List (Nat×SV)}{ow:List (Nat×Option Own)}{nx:Nat}{R:St->Prop}{d:Nat}{t:TypeId}{x:Operand}
theorem pw {P:Program}{w:World}{g:Nat}{s:ByteArray}{p:Nat}(h:w.heap[g]? =some (.stringIter s p)):(getObj g).run P w= .ok (.stringIter s p) w:=by simp[getObj,Sem.run,h]
theorem xf {P:Program}{w:World}{g:Nat}{s:ByteArray}{p:Nat}(o:Obj)(h:w.heap[g]? =some (.stringIter s p)):(setObj g o).run P w= .ok () { w with heap:=w.heap.setIfInBounds g o }:=by simp[setObj,Sem.run,h]
theorem th {w:World}{Z:Nat->Prop}{v:Value}{s:ByteArray}(h:Rep w Z v (.str s)):v= .string s:=by cases h;rfl
theorem J.rgs {fr:Bool}{s:ByteArray}(ho:o.op= .range t x)(hg:wants ops (St.mk sl ow nx).f o=some true)(hd:o.dst=some d)(hlt:K.can d=true)(hx:(St.mk sl ow nx).f.get x=some (.val fr (.str s)))(hu:K.P.underlying t=some .string)
  (k:J K ops dr rest ⟨(d,.ref nx)::sl,(nx,some (.sit s 0))::ow,nx+1⟩ R):J K ops dr (o::rest) ⟨sl,ow,nx⟩ R:=by
 refine .does hg hd hlt (.genO (xs:=[x]) (l:=[.str s]) ?_ ?_ ?_) k
 ·intro v hv;rw[ho];simpa[Op.operands]using hv
 ·simp only[dB,hx,SV.ff]
 ·intro a w hl;have e1:a.eval x= .string s:=by
   cases hl with
   |cons h1 h2=>exact th h1
  have hrun:(Instr.range t (.string s)).run K.P w= .ok (.pointer (some ⟨w.heap.size,0,none⟩)) (w.alloc (.stringIter s 0)):=by
   simp only[Instr.range,EM,run_underlying hu,EG];rfl
  refine⟨.pointer (some ⟨w.heap.size,0,none⟩),w.alloc (.stringIter s 0),?_,cT w _,λZ=>⟨w.heap.size,rfl,heap_alloc_new w _⟩,λg hg=>by simp[VB,aC]at hg;omega⟩;simp only[execOp,ho,EM,e1,hrun,EG];rfl
theorem J.nxs {qi pos:Nat}{s:ByteArray}{it:Operand}(ho:o.op= .next it true)(hg:wants ops (St.mk sl ow nx).f o=some true)(hd:o.dst=some d)(hlt:K.can d=true)(hi:(St.mk sl ow nx).f.get it=some (.ref qi))(hqi:(St.mk sl ow nx).f.own qi=some (.sit s pos))
  (k0:s.size<=pos->J K ops false rest ⟨(d,.tup [.val true (.bool false)])::sl,ow,nx⟩ R)
  (k1:pos<s.size->J K ops false rest ⟨(d,.tup [.val true (.bool true),.val true (.int .i64 pos),.val true (.int .i32 (Utf8.decode s pos).1)])::sl,(qi,some (.sit s (pos+(Utf8.decode s pos).2)))::ow,nx⟩ R):J K ops false (o::rest) ⟨sl,ow,nx⟩ R:=by
 refine⟨⟨λA w Q hr hn=> ?_⟩⟩;obtain⟨φ,hφ⟩:=hr;obtain⟨hri,_⟩:=ah hφ hi;have hri:A.eval it=φ qi:=hri;obtain⟨r,hvi,hir⟩:=hφ.own qi _ hqi;unfold wpList;rw[E6 (aH hφ hg)];refine .inl ?_;by_cases hp:pos<s.size
 ·have hrun:(execOp A.eval o).run K.P w= .ok (.value (.tuple #[.bool true,.int .i64 pos,.int .i32 (Utf8.decode s pos).1])) (setBlock w r (.stringIter s (pos+(Utf8.decode s pos).2))):=by
   simp only[execOp,ho,hri,hvi,Instr.next,EM,pw hir,EG,E6 hp,xf _ hir];rfl
  unfold Oper.wp;rw[hrun];have hrlt:=(EU.1 hir).1;have hoth: ∀b',b'<w.heap.size->¬VB (φ qi) b'->(setBlock w r (.stringIter s (pos+(Utf8.decode s pos).2))).heap[b']? =w.heap[b']? :=by
   intro b' _ hnv;have hne:r≠b':=(by rintro rfl;exact hnv (.inl (by rw[hvi];rfl)));simp[setBlock,hne]
  have h2:=hφ.turn (w':=setBlock w r (.stringIter s (pos+(Utf8.decode s pos).2))) hqi Y Y Y (by simp[setBlock]) hoth (c':= .sit s (pos+(Utf8.decode s pos).2)) λ_=>⟨r,hvi,by simp[setBlock,hrlt]⟩;have e1:(St.mk sl ((qi,some (.sit s (pos+(Utf8.decode s pos).2)))::ow) nx).f=⟨(St.mk sl ow nx).f.slot,λj=>if j=qi then some (.sit s (pos+(Utf8.decode s pos).2))else(St.mk sl ow nx).f.own j⟩:=by
   refine EnvF.ext (λ_=>rfl) λj=> ?_;simp only[St.f,ak];by_cases e:qi=j;·subst e;simp
   ·rw[E4 e,E4 (Ne.symm e)]
  rw[<-e1]at h2;have h5:RelW K (St.mk ((d,.tup [.val true (.bool true),.val true (.int .i64 pos),.val true (.int .i32 (Utf8.decode s pos).1)])::sl) ((qi,some (.sit s (pos+(Utf8.decode s pos).2)))::ow) nx).f (· <nx) φ (A.put (some d) (.tuple #[.bool true,.int .i64 pos,.int .i32 (Utf8.decode s pos).1])) _:=
   h2.put hlt (sv:= .tup [.val true (.bool true),.val true (.int .i64 pos),.val true (.int .i32 (Utf8.decode s pos).1)]) ⟨[.bool true,.int .i64 pos,.int .i32 (Utf8.decode s pos).1],rfl,.cons (Rep.bool _) (.cons (Rep.int _ _) (.cons (Rep.int _ _) .nil))⟩ (λs hs=>by
    simp only[ET,HI,or_false]at hs;rcases hs with rfl|rfl|rfl<;>trivial) Y slot_put
  have:=(k1 hp).out.out _ _ Q ⟨φ,h5⟩ hn;rw[<-hd]at this;exact this
 ·have hrun:(execOp A.eval o).run K.P w= .ok (.value (.tuple #[.bool false])) w:=by
   simp only[execOp,ho,hri,hvi,Instr.next,EM,pw hir,EG,E4 hp];rfl
  unfold Oper.wp;rw[hrun];have h3:RelW K (St.mk ((d,.tup [.val true (.bool false)])::sl) ow nx).f (· <nx) φ (A.put (some d) (.tuple #[.bool false])) w:=hφ.put hlt (sv:= .tup [.val true (.bool false)]) ⟨[.bool false],rfl,.cons (Rep.bool _) .nil⟩ (λs hs=>by simp at hs;subst hs;trivial) Y slot_put;have:=(k0 (I6 hp)).out.out _ w Q ⟨φ,h3⟩ hn;rw[<-hd]at this;exact this
end
theorem tS {s:ByteArray}{i:Nat}(h:(s.get! i).toNat<128):Utf8.decode s i=((s.get! i).toNat,1):=by
 unfold Utf8.decode;simp only[G3];rw[E6 h]
theorem x9 {s:ByteArray}{i:Nat}(h:128<=(s.get! i).toNat):128<=(Utf8.decode s i).1:=by
 unfold Utf8.decode;simp only[G3];rw[E4 (by omega)];have hr:128<=Utf8.runeError:=by decide
 repeat' split
 all_goals first|exact hr|(rename_i h1;first|exact h1|(simp only[EL,ER]at h1;omega))
end Go.Proofs.YtopcjbahjjhdmaaGreat
namespace Go.Proofs.YtopcjbahjjhdmaaGreat
open Go Go.RowKit
set_option linter.unusedVariables false
set_option linter.unusedSimpArgs false
theorem nf {w:World}{ps qs:List MemPlace}(h:w.noneFrozen ps)(hs: ∀p∈qs,p∈ps): ∀p∈qs,MemPlace.frozenIn w p=false:=by
 intro p hp;cases p with
 |cell b off=>exact h _ _ (hs _ hp)
 |map b=>rfl
def dW {H:Type}(henc:TypeId×Value->H)(P:Program)(w:World)(t:TypeId){α:Type}(enc:α->List PV)(good:α->Prop):Prop:=
 ∀(fuel:Nat) (cs:List Value) (x:DataW H×List MemPlace),DataW.trod henc P w 0 (λ_=>true) true fuel t cs=some x->(DataW.weights P t x.1).all (· <=reachBytes)=true->(∀p∈x.2,MemPlace.frozenIn w p=false)->
  ∃a,L2 (Rep w λ_=>True) cs (enc a)/\good a
section
variable {H:Type}{henc:TypeId×Value->H}{P:Program}{w:World}
theorem rN {t:TypeId}(hu:P.underlying t=some (.int .i64)):dW henc P w t cI (λn=> -9223372036854775808<=n/\n<=9223372036854775807):=by
 intro fuel cs x h _ _;obtain⟨n,rfl,_,hw⟩:=DataW.trod_int hu h;refine⟨n,.cons (.int _ _) .nil,?_⟩;simp only[Lit.wf,EL,ER]at hw;exact hw
theorem d5 {t e:TypeId}{α:Type}{enc:α->List PV}{good:α->Prop}(hu:P.underlying t=some (.slice e))(ho:dW henc P w e enc good)(hl: ∀a,(enc a).length=P.cellsOf e)(hpos:0<P.cellsOf e)(h1: ∀a,∀p∈enc a,p.one=true):
  dW henc P w t (λl:List α=>[.sl (l.map enc)]) (λl=>l.length*P.bytesOf e<=reachBytes/\∀a∈l,good a):=by
 intro fuel cs x h hw hpl;rcases DataW.trod_slice hu h with ⟨rfl,rfl⟩|⟨a,len,cap,elems,rest,n,rfl,rfl,rfl,_,hlc,hcm,hlen,hel,_,_⟩;·exact⟨[],.cons .nilsl .nil,by simp,by simp⟩
 ·simp only[DataW.weights,hu,Gn,Ft,EL,ER]at hw;obtain⟨hb,hwe,_⟩:=hw;have hwall: ∀(l:List (DataW H×List MemPlace)),(DataW.weightsAll P e (l.map (·.1))).all (· <=reachBytes)=true->∀y∈l,(DataW.weights P e y.1).all (· <=reachBytes)=true:=by
   intro l
   induction l with
   |nil=>intro _ y hy;cases hy
   |cons z l ih=>
    intro hz y hy;simp only[Ek,DataW.weightsAll,Ft,EL]at hz;rcases ET.1 hy with rfl|hy;·exact hz.1
    ·exact ih hz.2 y hy
  have each: ∀i,i<len->∃(ys:List Value) (b:α),w.cells? 0 (a.add (i*P.cellsOf e)) (P.cellsOf e)=some ys/\L2 (Rep w λ_=>True) ys (enc b)/\good b:=by
   intro i hi;have h2:=hel i hi;have hi':i<elems.length:=(by omega);rw[E5 hi',HT]at h2;obtain⟨ys,h3,h4⟩:=h2;obtain⟨b,h5,h6⟩:=ho n ys _ h4 (hwall elems hwe _ (EA hi')) (λp hp=>hpl p (Ey _ (GH.2 ⟨_,Ex _ (EA hi'),hp⟩)));exact⟨ys,b,h3,h5,h6⟩
  have all_: ∀k,k<=len->∃(xs:List Value) (l:List α),l.length=k/\L2 (Rep w λ_=>True) xs (l.map enc).flatten/\(∀b∈l,good b)/\∀j v,xs[j]? =some v->w.cell? (a.add j)=some v:=by
   intro k
   induction k with
   |zero=>intro _;exact⟨[],[],rfl,.nil,by simp,by simp⟩
   |succ k ih=>
    intro hk;obtain⟨xs,l,h2,h3,h4,h5⟩:=ih (by omega);obtain⟨ys,b,h6,h7,h8⟩:=each k (by omega);obtain⟨_,h9,h10⟩:=World.cells?_some h6;have hxl:xs.length=k*P.cellsOf e:=by
     rw[h3.length,<-h2];clear h2 h3 h4
     induction l with
     |nil=>simp
     |cons c l ih=>simp[ih,hl,GO,GF]
    refine⟨xs++ys,l++[b],by simp[h2],?_,λc hc=> ?_,λj v hj=> ?_⟩
    ·rw[F4,List.flatten_append];exact h3.append (by simpa using h7)
    ·rcases EW.1 hc with hc|hc;·exact h4 c hc
     ·simp at hc;subst hc;exact h8
    ·by_cases hlt:j<xs.length
     ·rw[FE hlt]at hj;exact h5 j v hj
     ·rw[F1 (by omega)]at hj;have hjl:=(E8.1 hj).1;have:=h10 (j-xs.length) (by omega);rw[hj]at this;rw[<-this,Addr.add_add];congr 2;omega
  obtain⟨xs,l,h2,h3,h4,h5⟩:=all_ len (EO _);refine⟨l,.cons ?_ .nil,?_,h4⟩
  ·cases hln:l with
   |nil=>
    have e0:len=0:=(by rw[<-h2,hln];rfl);rw[e0];exact .slE a cap hcm
   |cons b l'=>
    have hfl:((l.map enc).flatten).length=l.length*P.cellsOf e:=by
     have: ∀l:List α,((l.map enc).flatten).length=l.length*P.cellsOf e:=by
      intro l
      induction l with
      |nil=>simp
      |cons c l ih=>simp[ih,hl,GO,GF]
     exact this l
    ·have hx0:0<xs.length:=by
      rw[h3.length,hfl,hln];simp only[El,GO];omega
     have hcell:=h5 0 xs[0] (E5 hx0);have ha:(a.add 0)=a:=(by unfold Addr.add;rw[E6 Y]);rw[ha]at hcell;have hspot:a.spot=none/\a.block<w.heap.size:=by
      unfold World.cell? at hcell;split at hcell
      ·rename_i c et m hheap;refine⟨?_,(EU.1 hheap).1⟩;split at hcell;·cases hcell
       ·rename_i hs;cases hsp:a.spot with
        |none=>rfl
        |some k=>rw[hsp]at hs;simp at hs
      ·cases hcell
     obtain⟨blk,off,spot⟩:=a;simp only at hspot;obtain⟨rfl,hlt⟩:=hspot;rw[<-hln];have:=Rep.sl (w:=w) (Z:=λ_=>True) blk off cap (P.cellsOf e) (l.map enc) xs trivial hlt (λr hr=>by obtain⟨c,_,rfl⟩:=EH.1 hr;exact hl c) (λr hr=>by obtain⟨c,_,rfl⟩:=EH.1 hr;exact h1 c)
      (λj v hj=>by
       have hfz:=hpl (.cell blk (off+j)) (Ex _ (EH.2 ⟨j,ES.2 (by
        have:=(E8.1 hj).1;rw[h3.length,hfl,h2]at this;have e3:elems.length*P.cellsOf e<=(elems.length+rest.length)*P.cellsOf e:=F7 _ (by omega);rw[<-hlen]at this;omega),rfl⟩))
       have:=h5 j v hj;have e:(⟨blk,off,none⟩:Addr).add j=⟨blk,off+j,none⟩:=(by unfold Addr.add;split<;>simp_all);rw[e]at this;exact⟨this,hfz⟩) (by simp;omega) hcm h3
     rw[EB,h2]at this;exact this
  ·simp only[EB]at hb;rw[h2,<-hlen];exact Em (F7 _ (by omega)) hb
def ui {H:Type}(henc:TypeId×Value->H)(P:Program)(w:World)(off:Nat)(fs:List Field){α:Type}(enc:α->List PV)(good:α->Prop):Prop:=
 ∀(fuel:Nat) (cs:List Value) (xs:List (DataW H×List MemPlace)),(∀(i:Nat) (f:Field),fs[i]? =some f->DataW.trod henc P w 0 (λ_=>true) true fuel f.type ((cs.drop f.offset).take (P.cellsOf f.type))=xs[i]?)->xs.length=fs.length->
  (DataW.weightsEach P (fs.map (·.type)) (xs.map (·.1))).all (· <=reachBytes)=true->cs.length=off+(fs.map λf=>P.cellsOf f.type).sum->(∀p∈xs.flatMap (·.2),MemPlace.frozenIn w p=false)->∃a,L2 (Rep w λ_=>True) (cs.drop off) (enc a)/\good a
theorem gr (off:Nat):ui henc P w off [] (λ_:Unit=>[]) (λ_=>True):=by
 intro fuel cs xs _ _ _ hl _;refine⟨(),?_,trivial⟩;rw[Fb (by simp at hl;omega)];exact .nil
theorem aY {off:Nat}{f:Field}{fs:List Field}{α β:Type}{enc:α->List PV}{good:α->Prop}{enc2:β->List PV}{good2:β->Prop}(ho:dW henc P w f.type enc good)(hf:f.offset=off)(hr:ui henc P w (off+P.cellsOf f.type) fs enc2 good2):
  ui henc P w off (f::fs) (λx:α×β=>enc x.1++enc2 x.2) (λx=>good x.1/\good2 x.2):=by
 intro fuel cs xs hx hlen hw hl hpl;cases xs with
 |nil=>simp at hlen
 |cons x xs=>
  simp only[Ek,DataW.weightsEach,Ft,EL]at hw;have h0:=hx 0 f Y;simp only[GG,hf]at h0;simp only[H6,EW]at hpl;obtain⟨a,h1,h2⟩:=ho fuel _ x h0 hw.1 (λp hp=>hpl p (.inl hp));simp only[Ek,FX]at hl;obtain⟨b,h3,h4⟩:=hr fuel cs xs (λi g hg=>by simpa using hx (i+1) g (by simpa using hg)) (by simpa using hlen) hw.2 (by omega) (λp hp=>hpl p (.inr hp));refine⟨(a,b),?_,h2,h4⟩;have e:cs.drop off=(cs.drop off).take (P.cellsOf f.type)++cs.drop (off+P.cellsOf f.type):=by
   rw[<-IE,GA]
  rw[e];exact h1.append h3
theorem eA {t:TypeId}{fs:Array Field}{α:Type}{enc:α->List PV}{good:α->Prop}(hu:P.underlying t=some (.struct fs))(ho:ui henc P w 0 fs.toList enc good)(hs:P.cellsOf t=(fs.toList.map λf=>P.cellsOf f.type).sum):dW henc P w t enc good:=by
 intro fuel cs x h hw hpl;obtain⟨xs,n,rfl,rfl,hl,hxl,hx⟩:=DataW.trod_struct hu h;simp only[DataW.weights,hu]at hw;obtain⟨a,h1,h2⟩:=ho n cs xs (λi f hf=>hx i f (by simpa using hf)) (by simpa using hxl) hw (by omega) hpl;exact⟨a,by simpa using h1,h2⟩
theorem dW.map {t:TypeId}{α β:Type}{enc:α->List PV}{good:α->Prop}{enc2:β->List PV}{good2:β->Prop}(h:dW henc P w t enc good)(f:α->β)(he: ∀a,enc2 (f a)=enc a)(hg: ∀a,good a->good2 (f a)):dW henc P w t enc2 good2:=by
 intro fuel cs x h1 h2 h2';obtain⟨a,h3,h4⟩:=h fuel cs x h1 h2 h2';exact⟨f a,by rw[he];exact h3,hg a h4⟩
end
end Go.Proofs.YtopcjbahjjhdmaaGreat
