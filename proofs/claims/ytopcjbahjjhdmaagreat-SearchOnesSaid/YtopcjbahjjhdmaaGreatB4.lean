/- The texts CoreZB, CoreZC, CoreZD, CoreZE, CoreZF, CoreZG, CoreZH, CoreZI, CoreZJ, CoreZK, CoreZL, CoreQ of the workplace, joined. -/
import Derived.Test.YtopcjbahjjhdmaaGreatB3
import Derived.Lib.SliceRun
import Derived.Defers
import Derived.ChangeSlices
import Derived.ChangeArms
import Derived.SizedLaws
import Derived.DataElems
namespace Go.Proofs.YtopcjbahjjhdmaaGreat
open Go Go.RowKit
set_option linter.unusedVariables false
set_option linter.unusedSimpArgs false
structure SpecP (P:Program)(f:FuncId)(us:List Value)(cs:List Own)(e:TypeId)(sz:Nat)(rows:List (List PV))(args:List PV)(rows':List (List PV)):Prop where
 isFn: ∃fn,P.funcs[f]? =some fn/\fn.body.isSome=true/\(fn.name== "runtime.NumGoroutine")=false
 out: ∀(w:World) (Z1:Nat->Prop) (v0:Value) (vs:List Value),ar w (λ_=>Z1) v0 (.sl e sz true rows)->(∀b,Z1 b->¬VB v0 b)->L2 (ar w λ_ b=> ¬VB v0 b/\Off us b) us cs->gF us->(∀u g,u∈us->VB u g->¬VB v0 g)->L2 (Rep w (λb=> ¬VB v0 b/\Off us b)) vs args->
  Calls P f (v0::vs).toArray w λx w'=> ∃r:Value,x= .returned r/\w'.os=w.os/\w'.tape=w.tape/\w'.output=w.output/\w.heap.size<=w'.heap.size/\(∀b,b<w.heap.size->¬VB v0 b->w'.heap[b]? =w.heap[b]?)/\
   ar w' (λ_ b=>Z1 b/\¬VB r b) r (.sl e sz true rows')/\∀g,VB r g->VB v0 g∨w.heap.size<=g
theorem J.cp {K:Ctx}{ops:Array Oper}{o:Oper}{rest:List Oper}{sl:List (Nat×SV)}{ow:List (Nat×Option Own)}{nx:Nat}{R:St->Prop}{d:Nat}{x x0:Operand}{xs:List Operand}{args:Array Operand}{tys:Array TypeId}{f:FuncId}{fx fr:Bool}{q sz:Nat}{e:TypeId}{rows rows' rows2:List (List PV)}{ps ps':List PV}{us:List Value}{cs cs2:List Own}{qs:List Nat}(gs:List Nat)
  (ho:o.op= .call { callee:= .value x,args:=args,argTypes:=tys }) (hg:wants ops (St.mk sl ow nx).f o=some true) (hd:o.dst=some d) (hlt:K.can d=true) (hx:(St.mk sl ow nx).f.get x=some (.val fx (.fn (.func f) [] []))) (ha:args.toList=x0::xs)
  (h0:(St.mk sl ow nx).f.get x0=some (.ref q)) (hq:(St.mk sl ow nx).f.own q=some (.sl e sz fr rows2)) (hspec:SpecP K.P f us cs e sz rows ps' rows') (hheld:x6 (St.mk sl ow nx).f gs us cs2 qs) (hdup:dup (q::qs)=false) (hcs:cs2.map (Own.reg true)=cs.map (Own.reg true))
  (hne:(xs.all λy=>(q::qs).all λq=>nr q ((St.mk sl ow nx).f.get y))=true) (hrw:rows2=rows) (hps:bW (St.mk sl ow nx).f false xs=some ps) (hpe:ps=ps')
  (k:J K ops false rest ⟨(d,.ref nx)::sl,(nx,some (.sl e sz fr rows'))::(q,none)::ow,nx+1⟩ R):J K ops false (o::rest) ⟨sl,ow,nx⟩ R:=by
 subst hrw hpe;refine⟨TO.mk λa w Q hr hQ=> ?_⟩;obtain⟨φ,hφ⟩:=hr;unfold wpList;rw[D4 (aE hφ hg)];refine .inl ?_;obtain⟨hrf,_⟩:=ae hφ hx;generalize hvx:a.eval x=vx at hrf;cases hrf with
 |fn _ vs vcs _ _ hf hc=>
 cases hf;cases hc;obtain⟨fn,hfn,hbody,hname⟩:=hspec.isFn;obtain⟨hr0,_⟩:=ae hφ h0;have hr0:a.eval x0=φ q:=hr0;have hrun:(execOp a.eval o).run K.P w= .ok (.enter f (φ q::xs.map a.eval).toArray) w:=by
  have hb:fn.body.isNone=false:=(by cases hfb:fn.body<;>simp_all);simp only[execOp,ho,resolve,hvx,Deferred.ofValue,DK,Dr,DA,invoke,callFunc,run_program,hfn,hname,hb,EF,if_false];congr 2;apply Array.ext';simp[ha,hr0]
 unfold Oper.wp;rw[hrun];have hoq:=hφ.own q _ hq;have hqx:q<nx:=hφ.inU q _ hq;obtain⟨⟨hl1,hl2⟩,hat⟩:=pe hheld;have hcl:cs2.length=cs.length:=(by have:=congrArg List.length hcs;simpa using this);have hval: ∀(i q':Nat) (u:Value),qs[i]? =some q'->us[i]? =some u->φ q'=u:=by
  intro i q' u h1 h2;obtain⟨u',c,g,h3,_,_,h5⟩:=hat i q' h1;rw[h2]at h3;cases h3;obtain⟨_,_,e⟩:=hφ.slot g _ h5;exact e
 have hinj:=fz (q::qs) hdup;have hownq: ∀q'∈q::qs,∃c,(St.mk sl ow nx).f.own q'=some c:=λq' hq'=>by
  rcases DO.1 hq' with rfl|hq';·exact⟨_,hq⟩
  ·obtain⟨i,hi⟩:=DH hq';obtain⟨_,c,_,_,_,h,_⟩:=hat i q' hi;exact⟨c,h⟩
 have hus: ∀u∈us,∃(i:Nat) (q':Nat),qs[i]? =some q'/\us[i]? =some u/\φ q'=u:=λu hu=>by
  obtain⟨i,hi⟩:=DH hu;have hil:=(D5.1 hi).1;have hq':qs[i]? =some (qs[i]'(by omega)):=D1 (by omega);exact⟨i,_,hq',hi,hval i _ u hq' hi⟩
 have hnq: ∀q'∈qs,q'≠q:=λq' hq' e=>by
  obtain⟨i,hi⟩:=DH hq';have:=hinj 0 (i+1) q (by rfl) (by simpa[e]using hi);omega
 have hoff: ∀b,(∀q'∈q::qs,¬VB (φ q') b)->¬VB (φ q) b/\Off us b:=by
  intro b hb;refine⟨hb q (.head _),λu hu hv=> ?_⟩;obtain⟨i,q',h1,_,e⟩:=hus u hu;exact hb q' (.tail _ (D7 h1)) (by rw[e];exact hv)
 have hZoff: ∀f b,Zf K (St.mk sl ow nx).f φ f b->¬VB (φ q) b/\Off us b:=λf b hb=>hoff b λq' hq'=>by
  obtain⟨c,hc⟩:=hownq q' hq';exact hb.1.2 q' c hc
 have hL2:L2 (ar w λ_ b=> ¬VB (φ q) b/\Off us b) us cs:=by
  refine L2.ofGet (by omega) λi u c hi hc=> ?_;have hil:=(D5.1 hi).1;have hq':qs[i]? =some (qs[i]'(by omega)):=D1 (by omega);obtain⟨u',c2,g,h1,h2,h3,h4⟩:=hat i _ hq';rw[hi]at h1;cases h1;have e:=hval i _ u hq' hi;have h5:=hφ.own _ c2 h3;rw[e]at h5;refine tN (oI h5 λb hb=>hZoff _ b hb) ?_;have e2:(cs2.map (Own.reg true))[i]? =(cs.map (Own.reg true))[i]? :=(by rw[hcs]);rw[DE,DE,h2,hc]at e2;exact D3 e2
 have hap:gF us:=by
  intro i j u v g hi hj h1 h2;have hil:=(D5.1 hi).1;have hjl:=(D5.1 hj).1;have hqi:qs[i]? =some (qs[i]'(by omega)):=D1 (by omega);have hqj:qs[j]? =some (qs[j]'(by omega)):=D1 (by omega);obtain⟨_,ci,_,_,_,oi,_⟩:=hat i _ hqi;obtain⟨_,cj,_,_,_,oj,_⟩:=hat j _ hqj;have:=hφ.dis _ _ ci cj g oi oj (by rw[hval i _ u hqi hi];exact h1) (by rw[hval j _ v hqj hj];exact h2);have:=hinj (i+1) (j+1) _ (by rw[El];exact hqi) (by rw[El,this];exact hqj);omega
 refine(hspec.out w (Zf K (St.mk sl ow nx).f φ fr) (φ q) (xs.map a.eval) hoq (λb hb=>hb.1.2 q _ hq) hL2 hap (λu g hu hv hv0=> ?_) ((AX hφ hownq xs ps hps hne).imp λv p h=>h.mono λb hb _=>⟨hoff b hb,rfl⟩)).mono ?_
 ·obtain⟨i,q',h1,_,e⟩:=hus u hu;obtain⟨c,hc⟩:=hownq q' (.tail _ (D7 h1));exact hnq q' (D7 h1) (hφ.dis q' q c _ g hc hq (by rw[e];exact hv) hv0)
 rintro _ w' ⟨r,rfl,hos,htape,hout,hsize,hblk,hown',hvr⟩;let φ':Nat->Value:=λi=>if i=nx then r else φ i
 have hrel:RelW K ⟨(St.mk sl ow nx).f.slot,aw (St.mk sl ow nx).f.own (some q) nx (.sl e sz fr rows')⟩ (λi=>i<nx∨i=nx) φ' a w':=by
  have hZ: ∀f b,Zf K (St.mk sl ow nx).f φ f b->¬VB r b->Zf K ⟨(St.mk sl ow nx).f.slot,aw (St.mk sl ow nx).f.own (some q) nx (.sl e sz fr rows')⟩ φ' f b:=by
   refine λf b hb hnr=>⟨⟨hb.1.1,λi c hi hv=> ?_⟩,hb.2⟩;simp only[aw]at hi;by_cases e1:i=nx
   ·subst e1;simp only[φ',D4]at hv;exact hnr hv
   ·rw[D2 e1]at hi;simp only[φ',D2 e1]at hv;split at hi;·cases hi
    ·exact hb.1.2 i c hi hv
  refine hφ.step (λb=>VB (φ q) b) (λi=>i=nx∨i=q) Y (λ_ hu=> .inl hu) (λi hi=>by simp only[φ',D2 (Gp hi)]) hos htape hout hsize (λb hb hne=>hblk b hb hne) ?_ ?_ ?_ ?_
  ·intro b _ hb;exact⟨q,_,hq,hb,.inr Y⟩
  ·intro i c hi hc;simp only[aw]at hi;rw[D2 (λe=>hc (.inl e)),D2 (λe=>hc (.inr (D3 e).symm))]at hi;exact hi
  ·intro i c hi hc;have hin:i=nx:=by
    rcases hc with hc|hc;·exact hc
    ·simp only[aw]at hi;by_cases e:i=nx;·exact e
     ·rw[D2 e,D4 (by rw[hc])]at hi;cases hi
   subst hin;simp only[aw,D4,D6]at hi;subst hi;refine⟨.inr Y,?_,λg hg=> ?_⟩
   ·simp only[φ',D4];obtain⟨xs',hwn,hl,h1,h2⟩:=hown';exact⟨xs',hwn,Rep.monoL (λb hb _=>⟨hZ fr b hb.1 hb.2,rfl⟩) hl,h1,h2⟩
   ·simp only[φ',D4]at hg;rcases hvr g hg with h|h;·exact .inr ⟨q,_,hq,h,.inr Y⟩
    ·exact .inl h
  ·intro i i' c c' g hi hi' hc hc' _ _;have key: ∀i c,aw (St.mk sl ow nx).f.own (some q) nx (.sl e sz fr rows') i=some c->(i=nx∨i=q)->i=nx:=by
    intro i c hi hc;rcases hc with hc|hc;·exact hc
    ·simp only[aw]at hi;by_cases e:i=nx;·exact e
     ·rw[D2 e,D4 (by rw[hc])]at hi;cases hi
   rw[key i c hi hc,key i' c' hi' hc']
 have hU:(λi=>i<nx∨i=nx)=(· <nx+1):=(by funext i;simp only[eq_iff_iff];omega);rw[hU]at hrel;refine(k.out).out _ _ Q ⟨φ',?_⟩ hQ;rw[hd];refine hrel.put hlt (v:=r) (sv:= .ref nx) (by simp[aU,ay,φ']) (by show nx<nx+1;omega) ?_ slot_put;funext i;simp only[aw,St.f,ai];by_cases e1:nx=i;·subst e1;simp
 ·rw[D2 e1,D2 (Ne.symm e1)];by_cases e2:q=i;·subst e2;simp
  ·rw[D2 e2,D2 (λe=>e2 (D3 e))]
section
variable {K:Ctx}{ops:Array Oper}{o o2:Oper}{rest:List Oper}{sl:List (Nat×SV)}{ow:List (Nat×Option Own)}{nx:Nat}{R:St->Prop}{d:Nat}{t e:TypeId}{x y:Operand}{q:Nat}{fr fy:Bool}{ky:IntKind}{l:List Int}{inf:TypeInfo}
theorem qU {w:World}{Z:Nat->Prop}: ∀{xs:List Int} {vs:List Value},L2 (Rep w Z) vs (xs.map cI).flatten->vs=xs.map (Value.int .i64)
 | [],_,.nil=>rfl
 |x::xs,_,.cons h h2=>by
  cases h;rw[qU (xs:=xs) h2];rfl
theorem qk {w:World}{Z:Nat->Prop}: ∀(xs:List Int),L2 (Rep w Z) (xs.map (Value.int .i64)) (xs.map cI).flatten
 | []=> .nil
 |x::xs=> .cons (.int _ _) (qk xs)
theorem qw {w:World}{Z:Bool->Nat->Prop}{v:Value}(h:w.ownsRow 0 e 1 v l.length (l.map (Value.int .i64))):ar w Z v (.sl e 1 fr (l.map cI)):=
 ⟨l.map (Value.int .i64),by rw[D9];exact h,qk l,λr hr=>by obtain⟨x,_,rfl⟩:=DF.1 hr;rfl,λr hr p hp=>by obtain⟨x,_,rfl⟩:=DF.1 hr;simp[cI]at hp;rw[hp];rfl⟩
theorem oJ {w:World}{Z:Bool->Nat->Prop}{v:Value}(h:ar w Z v (.sl e 1 fr (l.map cI))):w.ownsRow 0 e 1 v l.length (l.map (Value.int .i64)):=by
 obtain⟨xs,hrow,hx,_,_⟩:=h;obtain rfl:=qU hx;rwa[D9]at hrow
theorem iX {f:Nat->Option Own}{c2 c:Own}{j:Nat}(hi:aw f (some q) nx c2 j=some c)(hc:j=nx∨j=q):j=nx:=by
 rcases hc with hc|hc;·exact hc
 ·simp only[aw]at hi;by_cases e:j=nx;·exact e
  ·rw[D2 e,D4 (by rw[hc])]at hi;cases hi
theorem J.cut (i:Nat)(ho:o.op= .slice t x none (some y) none)(hg:wants ops (St.mk sl ow nx).f o=some true)(hd:o.dst=some d)(hlt:K.can d=true)(hx:(St.mk sl ow nx).f.get x=some (.ref q))(hq:(St.mk sl ow nx).f.own q=some (.sl e 1 fr (l.map cI)))
  (hy:(St.mk sl ow nx).f.get y=some (.val fy (.int ky (i:Int)))) (hi:i<l.length) (hu:K.P.underlying t=some (.slice e)) (hinf:K.P.info? e=some inf)
  (k:J K ops false rest ⟨(d,.ref nx)::sl,(nx,some (.sl e 1 fr ((l.take i).map cI)))::(q,none)::ow,nx+1⟩ R):J K ops false (o::rest) ⟨sl,ow,nx⟩ R:=by
 refine⟨TO.step hg ?_ k.out⟩;intro a w next Q hr hn
 obtain⟨φ,hφ⟩:=hr;obtain⟨hrx,_⟩:=ae hφ hx;have hrx:a.eval x=φ q:=hrx;obtain⟨hry,_⟩:=ae hφ hy;have hvy:a.eval y= .int ky i:=by
  generalize a.eval y=vy at hry;cases hry;rfl
 have hoq:=hφ.own q _ hq;obtain⟨hln,h⟩:=oJ hoq;rcases h with ⟨_,h0⟩|⟨g,cap,cur,hv,hg0,hb,hcap,hmax,hsz,htk⟩;·omega
 have hrun:(execOp a.eval o).run K.P w= .ok (.value (.slice (some ⟨g,0,none⟩) i cap)) w:=by
  have hb2:(Instr.sliceBounds true l.length cap none (some (a.eval y)) none).run K.P w= .ok (0,i,cap) w:=by
   have:(0:Int)<=(i:Int)/\(i:Int)<=(cap:Int):=(by omega);simp only[Instr.sliceBounds,hvy,DK,Dr,DA];rw[run_sliceBound w ky i cap _ this.1 this.2];rfl
  simp only[execOp,ho,hrx,hv,DK,Instr.sliceAt,Instr.slice,run_underlying hu,DA,FN,EG,hb2,aM hinf];rw[D2 (show¬cap=0 by omega)];simp[bD]
 unfold Oper.wp;rw[hrun];show next (a.put o.dst (.slice (some ⟨g,0,none⟩) i cap)) w
 have htk2:cur.toList.take (i*1)=(l.take i).map (Value.int .i64):=by
  rw[G1,<-htk,G9,ES (by omega),GS]
 have hvb: ∀b,VB (.slice (some ⟨g,0,none⟩) i cap) b->VB (φ q) b:=λb h=>(by rw[hv];simpa[VB,ax]using h);let φ':Nat->Value:=λj=>if j=nx then .slice (some ⟨g,0,none⟩) i cap else φ j
 have hqx:q<nx:=hφ.inU q _ hq;have hrel:RelW K ⟨(St.mk sl ow nx).f.slot,aw (St.mk sl ow nx).f.own (some q) nx (.sl e 1 fr ((l.take i).map cI))⟩ (λi=>i<nx∨i=nx) φ' a w:=by
  refine hφ.step (λb=>VB (φ q) b) (λi=>i=nx∨i=q) Y (λ_ hu=> .inl hu) (λi hi=>by simp only[φ',D2 (Gp hi)]) rfl rfl rfl (DL _) (λb hb hne=>rfl) ?_ ?_ ?_ ?_
  ·intro b _ hb;exact⟨q,_,hq,hb,.inr Y⟩
  ·intro i c hi hc;simp only[aw]at hi;rw[D2 (λe=>hc (.inl e)),D2 (λe=>hc (.inr (D3 e).symm))]at hi;exact hi
  ·intro i2 c hi2 hc;have hin:i2=nx:=by
    rcases hc with hc|hc;·exact hc
    ·simp only[aw]at hi2;by_cases e:i2=nx;·exact e
     ·rw[D2 e,D4 (by rw[hc])]at hi2;cases hi2
   subst hin;simp only[aw,D4,D6]at hi2;subst hi2;refine⟨.inr Y,?_,λg' hg'=> ?_⟩
   ·simp only[φ',D4];exact qw ⟨by simp,.inr ⟨g,cap,cur,by rw[Dx,ES (by omega)],hg0,hb,by simp;omega,hmax,hsz,by rw[Dx,ES (by omega)];exact htk2⟩⟩
   ·simp only[φ',D4]at hg';exact .inr ⟨q,_,hq,hvb g' hg',.inr Y⟩
  ·intro i i' c c' g hi hi' hc hc' _ _;rw[iX hi hc,iX hi' hc']
 have hU:(λi=>i<nx∨i=nx)=(· <nx+1):=(by funext i;simp only[eq_iff_iff];omega);rw[hU]at hrel;refine hn _ _ ⟨φ',?_⟩;rw[hd];refine hrel.put hlt (v:= .slice (some ⟨g,0,none⟩) i cap) (sv:= .ref nx) (by simp[aU,ay,φ']) (by show nx<nx+1;omega) ?_ slot_put;funext i;simp only[aw,St.f,ai];by_cases e1:nx=i;·subst e1;simp
 ·rw[D2 e1,D2 (Ne.symm e1)];by_cases e2:q=i;·subst e2;simp
  ·rw[D2 e2,D2 (λe=>e2 (D3 e))]
theorem rx (g:Nat)(e:TypeId): ∀(vs:List Value) (o:Nat) (w:World) (cur:Array Value),w.heap[g]? =some (.cells cur e (0,0))->o+vs.length<=cur.size->
  ∃cur':Array Value,(w.setCells g o vs).heap[g]? =some (.cells cur' e (0,0))/\cur'.size=cur.size/\cur'.toList=cur.toList.take o++(vs++cur.toList.drop (o+vs.length))/\(w.setCells g o vs).os=w.os/\(w.setCells g o vs).tape=w.tape/\(w.setCells g o vs).output=w.output/\(w.setCells g o vs).heap.size=w.heap.size/\∀b,b≠g->(w.setCells g o vs).heap[b]? =w.heap[b]?
 | [],o,w,cur,hb,_=>⟨cur,hb,rfl,by simp,rfl,rfl,rfl,rfl,λ_ _=>rfl⟩
 |v::vs,o,w,cur,hb,h=>by
  simp only[Dp]at h;have h1:=heap_setCell_same w g o cur e v hb;obtain⟨cur',a1,a2,a3,a4,a5,a6,a7,a8⟩:=rx g e vs (o+1) (w.setCell ⟨g,o,none⟩ v) _ h1 (by simp;omega);refine⟨cur',a1,by rw[a2];simp,?_,a4.trans rfl,a5.trans rfl,a6.trans rfl,?_,λb hbn=>(a8 b hbn).trans (heap_setCell_other w _ b _ hbn)⟩
  ·rw[a3];have ho:o<cur.toList.length:=(by simpa using (show o<cur.size by omega));have e1:(cur.setIfInBounds o v).toList=cur.toList.set o v:=(by simp);rw[e1,DB (by simpa using (show o<cur.size by omega)),List.getElem_set_self,List.take_set_of_le (DL _),Gk (by omega)];simp only[E4,Ei,Ea,Dp];congr 4;omega
  ·exact a7.trans (by simp[World.setCell])
theorem J.clr (i:Nat){args:Array Operand}{tys:Array TypeId}(ho:o.op= .slice t x (some y) none none)(hg:wants ops (St.mk sl ow nx).f o=some true)(hd:o.dst=some d)(hlt:K.can d=true)(hx:(St.mk sl ow nx).f.get x=some (.ref q))(hq:(St.mk sl ow nx).f.own q=some (.sl e 1 fr (l.map cI)))
  (hy:(St.mk sl ow nx).f.get y=some (.val fy (.int ky (i:Int)))) (hi:i<l.length) (hu:K.P.underlying t=some (.slice e)) (hinf:K.P.info? e=some inf) (hs1:inf.size=1) (hz: ∀w,(zeroValue e).run K.P w= .ok (.int .i64 0) w)
  (ho2:o2.op= .call { callee:= .builtin .clear,args:=args,argTypes:=tys }) (ha:args.toList=[.tmp d]) (ht:tys.toList=[t]) (hd2:o2.dst=none) (hg2: ∀u,wants ops (St.mk ((d,.val true (.raw u))::sl) ow nx).f o2=some true)
  (k: ∀u,J K ops false rest ⟨(d,.val true (.raw u))::sl,(q,some (.sl e 1 fr ((l.take i++List.replicate (l.length-i) 0).map cI)))::ow,nx⟩ R):J K ops false (o::o2::rest) ⟨sl,ow,nx⟩ R:=by
 have ea:args= #[.tmp d]:=(by rw[<-EQ (xs:=args),ha]);have et:tys= #[t]:=(by rw[<-EQ (xs:=tys),ht]);subst ea et;refine⟨TO.mk λa w Q hr hQ=> ?_⟩;obtain⟨φ,hφ⟩:=hr;unfold wpList;rw[D4 (aE hφ hg)];refine .inl ?_;obtain⟨hrx,_⟩:=ae hφ hx;have hrx:a.eval x=φ q:=hrx;obtain⟨hry,_⟩:=ae hφ hy;have hvy:a.eval y= .int ky i:=by
  generalize a.eval y=vy at hry;cases hry;rfl
 obtain⟨hln,h⟩:=oJ (hφ.own q _ hq);rcases h with ⟨_,h0⟩|⟨g,cap,cur,hv,hg0,hb,hcap,hmax,hsz,htk⟩;·omega
 have hrun:(execOp a.eval o).run K.P w= .ok (.value (.slice (some ⟨g,i,none⟩) (l.length-i) (cap-i))) w:=by
  have hb2:(Instr.sliceBounds true l.length cap (some (a.eval y)) none none).run K.P w= .ok (i,l.length,cap) w:=by
   have:(0:Int)<=(i:Int)/\(i:Int)<=(l.length:Int):=(by omega);simp only[Instr.sliceBounds,hvy,DK,Dr,DA];rw[run_sliceBound w ky i l.length _ this.1 this.2];rfl
  simp only[execOp,ho,hrx,hv,DK,Instr.sliceAt,Instr.slice,run_underlying hu,DA,FN,EG,hb2,aM hinf];rw[D2 (show¬cap=i by omega)];simp[bD,hs1]
 unfold Oper.wp;rw[hrun];show wpList K.P ops Q (o2::rest) (a.put o.dst (.slice (some ⟨g,i,none⟩) (l.length-i) (cap-i))) w;rw[hd];obtain⟨u,hue⟩: ∃u:Value,u= .slice (some ⟨g,i,none⟩) (l.length-i) (cap-i):=⟨_,rfl⟩;rw[<-hue];have hφ1:RelW K (St.mk ((d,.val true (.raw u))::sl) ow nx).f (· <nx) φ (a.put (some d) u) w:=
  hφ.put hlt (v:=u) (sv:= .val true (.raw u)) (Rep.raw u (by rw[hue];rfl)) trivial Y slot_put
 unfold wpList;rw[D4 (aE hφ1 (hg2 u))];refine .inl ?_;have hsd:(St.mk ((d,.val true (.raw u))::sl) ow nx).f.get (.tmp d)=some (.val true (.raw u)):=by
  show lk ((d,SV.val true (.raw u))::sl) d=_;rw[ai,D4 Y]
 obtain⟨hrd,_⟩:=ae hφ1 hsd;have hvd:(a.put (some d) u).eval (.tmp d)=u:=by
  generalize (a.put (some d) u).eval (.tmp d)=vd at hrd;cases hrd with
  |raw _ _=>rfl
 have hcell: ∀j,i+j<l.length->w.cell? ⟨g,i+j,none⟩=some (.int .i64 (l.getD (i+j) 0))/\w.frozen? ⟨g,i+j,none⟩=false:=λj hj=>by
  refine⟨?_,by simp[World.frozen?,hb]⟩;have h1:(cur.toList.take (l.length*1))[i+j]? =(l.map (Value.int .i64))[i+j]? :=(by rw[htk]);rw[GS,Ez hj]at h1;simp only[World.cell?,hb];simp only[Gq,EF,if_false];rw[<-Eo,h1,DE,D1 hj,D0,D1 hj];rfl
 have hcl:=λty=>Lib.run_clear_slice w t e ty (.int .i64 0) hu hz Y Y g i (l.length-i) (cap-i) (by omega) (λj hj=>by rw[(hcell j (by omega)).1];rfl) (λj hj=>(hcell j (by omega)).2);obtain⟨w',hw'⟩: ∃w',w'=w.setCells g i (List.replicate (l.length-i) (.int .i64 0)):=⟨_,rfl⟩;have hrun2:(execOp (a.put (some d) u).eval o2).run K.P w= .ok (.value (.tuple #[])) w':=by
  simp only[execOp,ho2,resolve,invoke,builtin,DK,Dr,DA,GY,DZ,GG,hvd];rw[hue,hcl,hw']<;>rfl
 unfold Oper.wp;rw[hrun2];show wpList K.P ops Q rest ((a.put (some d) u).put o2.dst (.tuple #[])) w';have hput:(a.put (some d) u).put o2.dst (.tuple #[])=a.put (some d) u:=(by rw[hd2];rfl);rw[hput];obtain⟨cur',b1,b2,b3,b4,b5,b6,b7,b8⟩:=rx g e (List.replicate (l.length-i) (.int .i64 0)) i w cur hb (by simp;omega);rw[<-hw']at b1 b4 b5 b6 b7 b8;refine(k u).out.out _ _ Q ⟨φ,?_⟩ hQ;have hll:(l.take i++List.replicate (l.length-i) (0:Int)).length=l.length:=(by simp;omega);have:=hφ1.turn (w':=w') hq b4 b5 b6 (by rw[b7];exact DL _) (λb' _ hnv=>b8 b' λe=>hnv (.inl (by rw[hv,e];rfl))) (c':= .sl e 1 fr ((l.take i++List.replicate (l.length-i) 0).map cI)) λhz2=>by
  refine qw ⟨by simp,.inr ⟨g,cap,cur',by rw[hll,hv],hg0,b1,by rw[hll];exact hcap,hmax,by rw[b2,hsz],?_⟩⟩;rw[hll,b3,GS];have e1:cur.toList.take i=(l.take i).map (Value.int .i64):=by
   rw[G1,<-htk,G9,GS,ES (by omega)]
  rw[e1,<-E4,EC,List.map_replicate,FW (by simp;omega),DS (by simp;omega)]
 have e:(St.mk ((d,SV.val true (.raw u))::sl) ((q,some (.sl e 1 fr ((l.take i++List.replicate (l.length-i) 0).map cI)))::ow) nx).f=⟨(St.mk ((d,SV.val true (.raw u))::sl) ow nx).f.slot,λj=>if j=q then some (.sl e 1 fr ((l.take i++List.replicate (l.length-i) 0).map cI))else(St.mk ((d,SV.val true (.raw u))::sl) ow nx).f.own j⟩:=by
  refine EnvF.ext (λ_=>rfl) λj=> ?_;simp only[St.f,ai];by_cases e:q=j;·subst e;simp
  ·rw[D2 e,D2 (Ne.symm e)]
 show RelW K (St.mk _ _ nx).f _ φ _ w';rw[e];exact this
end
theorem y4 {P:Program}{n:Nat}{e:TypeId}{sz:Nat}{rows:List (List PV)}{args:List PV}{w:World}{Z1:Nat->Prop}{v0:Value}{vs:List Value}(hle:args.length+1<=n)(hown:ar w (λ_=>Z1) v0 (.sl e sz true rows))(hz1: ∀b,Z1 b->¬VB v0 b)(hvs:L2 (Rep w λb=> ¬VB v0 b) vs args):
  Rel (Ctx.ofM P w v0 Z1 n) (iR e sz rows args) { tmps:=(v0::vs).toArray++Array.replicate (n-(v0::vs).toArray.size) undef,defers:=[] } w:=by
 have hvl:=hvs.length;have hsl0: ∀s sv,lk ((0,SV.ref 0)::iv 1 args) s=some sv->(s=0/\sv= .ref 0)∨∃j p,s=1+j/\args[j]? =some p/\sv= .val false p:=by
  intro s sv hs;rw[ai]at hs;by_cases e0:0=s;·rw[D4 e0]at hs;exact .inl ⟨e0.symm,(D3 hs).symm⟩
  ·rw[D2 e0]at hs;exact .inr (lx args 1 s sv hs)
 have hown0: ∀o c,(iR e sz rows args).f.own o=some c->o=0/\c= .sl e sz true rows:=by
  intro o c ho;simp only[iR,St.f,ai]at ho;by_cases e0:0=o;·rw[D4 e0]at ho;exact⟨e0.symm,(D3 ho).symm⟩
  ·rw[D2 e0]at ho;simp[lk]at ho
 have ht: ∀(j:Nat) v,(v0::vs)[j]? =some v->((v0::vs).toArray++Array.replicate (n-(v0::vs).toArray.size) undef)[j]? =some v:=by
  intro j v hv;have hj:j<(v0::vs).length:=(D5.1 hv).1;rw[FJ (by simpa using hj)];simpa using hv
 have htd: ∀(j:Nat) v,(v0::vs)[j]? =some v->((v0::vs).toArray++Array.replicate (n-(v0::vs).toArray.size) undef).getD j undef=v:=λj v h=>(by rw[E5,ht j v h];rfl);have hZ: ∀b,¬VB v0 b->Zf (Ctx.ofM P w v0 Z1 n) (iR e sz rows args).f (λ_=>v0) false b:=λb hb=>⟨⟨.inr hb,λo c ho=>hb⟩,λe=>by cases e⟩;have hZ1: ∀b,Z1 b->Zf (Ctx.ofM P w v0 Z1 n) (iR e sz rows args).f (λ_=>v0) true b:=λb hb=>⟨⟨.inr (hz1 b hb),λo c ho=>hz1 b hb⟩,λ_=> .inr hb⟩;refine⟨λ_=>v0,rfl,?_,?_,⟨rfl,rfl,rfl,DL _,λ_ _ _=>rfl⟩,?_,?_,?_,?_,?_,?_⟩;·simp[Ctx.ofM];omega
 ·intro s v hs hv;have hs:s<1:=hs;obtain rfl:s=0:=(by omega);have hv: [v0][0]? =some v:=hv;exact ht 0 v (by simpa using hv)
 ·intro o c ho;obtain⟨rfl,rfl⟩:=hown0 o c ho;exact ar.mono (Z:=λ_=>Z1) (c:= .sl e sz true rows) hown (λ_ _=>rfl) λf b hb _=>⟨by
   obtain⟨h1,h2⟩:=hZ1 b hb;exact⟨h1,λ_=>h2 Y⟩,rfl⟩
 ·intro o c g ho hg;exact .inr hg
 ·intro o c ho;obtain⟨rfl,_⟩:=hown0 o c ho;exact GN
 ·intro o o' c c' g ho ho' _ _;rw[(hown0 o c ho).1,(hown0 o' c' ho').1]
 ·intro s sv hs;rcases hsl0 s sv hs with ⟨rfl,rfl⟩|⟨j,p,rfl,hp,rfl⟩;·exact⟨v0,htd 0 v0 Y,rfl⟩
  ·obtain⟨v,hv,hr⟩:=hvs.get hp;exact⟨v,htd (1+j) v (by rw[FC];simpa using hv),Rep.mono (λb hb _=>⟨hZ b hb,rfl⟩) hr⟩
 ·intro s sv hs;rcases hsl0 s sv hs with ⟨rfl,rfl⟩|⟨j,p,rfl,hp,rfl⟩;·exact GN
  ·trivial
def Dj (fn:Func)(e:TypeId)(sz:Nat)(rows':List (List PV))(x:Exit)(E:St):Prop:=
 match x with
 | .normal| .ret=> ∃s q,fn.results.toList=[.tmp s]/\E.f.slot s=some (.ref q)/\E.f.own q=some (.sl e sz true rows')
 |_=>False
theorem SpecP.body {P:Program} {f:FuncId} {fn:Func} {c:Code} {e:TypeId} {sz:Nat} {rows rows':List (List PV)} {args:List PV} (hf:P.funcs[f]? =some fn) (hb:fn.body=some c) (hn:(fn.name== "runtime.NumGoroutine")=false) (hl:Nat.ble (args.length+1) fn.ntmps=true)
  (hflat: ∀r∈rows',∀p∈r,p.flat=true) (h: ∀w0 v0 Z1,T (Ctx.ofM P w0 v0 Z1 fn.ntmps) c (iR e sz rows args) (Dj fn e sz rows')):SpecP P f [] [] e sz rows args rows':=by
 refine⟨⟨fn,hf,by rw[hb];rfl,hn⟩,λw Z1 v0 vs hown hz1 _ _ _ hvs0=> ?_⟩;have hvs:L2 (Rep w λb=> ¬VB v0 b) vs args:=hvs0.imp λ_ _ h=>h.mono λb hb _=>⟨hb.1,rfl⟩;have hle:=Dy hl;have hvl:=hvs.length;refine calls_of_wp hf hb ?_;have hrel:=y4 (P:=P) (n:=fn.ntmps) hle hown hz1 hvs;refine wp_mono ((h w v0 Z1).out _ w hrel) λx a w' ⟨hfe,E,hq,φ,hφ⟩=> ?_;have key:(∃s q,fn.results.toList=[.tmp s]/\E.f.slot s=some (.ref q)/\E.f.own q=some (.sl e sz true rows'))->a.defers=[]/\∃v,(results fn a.tmps).run P w'= .ok v w'/\∃r:Value,Ending.returned v= .returned r/\
   w'.os=w.os/\w'.tape=w.tape/\w'.output=w.output/\w.heap.size<=w'.heap.size/\(∀b,b<w.heap.size->¬VB v0 b->w'.heap[b]? =w.heap[b]?)/\
   ar w' (λ_ b=>Z1 b/\¬VB r b) r (.sl e sz true rows')/\∀g,VB r g->VB v0 g∨w.heap.size<=g:=by
  rintro⟨s,q,hres,hq1,hq2⟩;have hk:=hφ.kept;obtain⟨v,hv,hvr⟩:=hφ.slot s _ hq1;have hvr:v=φ q:=hvr;refine⟨hφ.df,φ q,?_,φ q,rfl,hk.os,hk.tape,hk.output,hk.size,λb hb hne=>hk.block b hb hne,?_,λg hg=> ?_⟩
  ·have er:fn.results= #[.tmp s]:=(by rw[<-EQ (xs:=fn.results),hres]);have hrv:(bZ a.tmps (.tmp s)).run P w'= .ok (φ q) w':=by
    simp only[bZ,Dr,hv,hvr]
   have e:results fn a.tmps=(do let vs<-fn.results.mapM (bZ a.tmps);pure (if h:vs.size=1 then vs[0]else .tuple vs)):=by
    unfold results;congr
   have h1':(fn.results.toList.mapM (bZ a.tmps)).run P w'= .ok [φ q] w':=by
    rw[hres];simp only[Fg,List.mapM_nil,DK,hrv,DA,Dr]
   rw[e,FO];simp only[DK,Gw,h1',DA];rfl
  ·obtain⟨xs,hrow,hx,h1,h2⟩:=hφ.own q _ hq2;exact⟨xs,hrow,L2.ofGet hx.length λi u c hu hc=>(by
    obtain⟨u',h3,h4⟩:=hx.get hc;rw[hu]at h3;cases h3;exact h4:Rep w' _ u c).flat (by
    obtain⟨r,hr,hp⟩:=Ft.1 (D7 hc);exact hflat r hr c hp),h1,h2⟩
  ·rcases hφ.mine q _ g hq2 hg with h1|h1;·exact .inr h1
   ·exact .inl h1
 cases x<;>first
  |exact key hq
  |exact hq.elim
section
variable {K:Ctx}{ops:Array Oper}{dr:Bool}{o:Oper}{rest:List Oper}{sl:List (Nat×SV)}{ow:List (Nat×Option Own)}{nx:Nat}{R:St->Prop}{d:Nat}
theorem Rel.nilO (g:Nat)(e:TypeId)(sz:Nat)(hg:true=true)(a:Act)(w:World)(h:Rel K ⟨sl,ow,nx⟩ a w):
  Rel K ⟨(g,.eq (.slice none 0 0) nx)::sl,(nx,some (.sl e sz true []))::ow,nx+1⟩ a w:=by
 obtain⟨φ,hφ⟩:=h;have hadd:=hφ.add (Below.refl _ _) nx [.sl e sz true []] [.slice none 0 0] (λi h1 _ h3=>DU h3 (HH.2 h1)) Y (λi c v hc hv=>by
  cases i with
  |zero=>
   simp at hc hv;subst hc hv;exact⟨⟨[],World.ownsRow_nil w 0 e sz,.nil,by simp,by simp⟩,λg hg=>by simp[VB,ax]at hg⟩
  |succ i=>simp at hc) (λi j v v' g hi hj hv _=>by cases i<;>cases j<;>simp_all)
 have hU:em (· <nx) nx [.sl e sz true []]=(· <nx+1):=(by funext i;simp only[em,eq_iff_iff,EW];omega);have h2:RelW K (St.mk sl ((nx,some (.sl e sz true []))::ow) (nx+1)).f (· <nx+1) (bI φ nx [.slice none 0 0]) a w:=by
  have:=sg sl ow nx (nx+1) [.sl e sz true []];simp only[cw]at this;rw[this,<-hU];exact hadd
 obtain⟨v,hv⟩:=eI h2 hg;exact⟨_,h2.reslot (s:=g) (sv:= .eq (.slice none 0 0) nx) hv (by simp[aU,ay,bI]) (Eh nx) rfl slot_put⟩
theorem T.nilO {c:Code}{Q:Exit->St->Prop}(g:Nat)(e:TypeId)(sz:Nat)(hg:true=true)(k:T K c ⟨(g,.eq (.slice none 0 0) nx)::sl,(nx,some (.sl e sz true []))::ow,nx+1⟩ Q):T K c ⟨sl,ow,nx⟩ Q:=T.sub (Rel.nilO g e sz hg) k
theorem J.bz {t:TypeId}{parts:Array (Nat×Operand)}{fs:Array Field}{inf:TypeInfo}{z:Value}{zs cs:List PV}{f:Bool}{ps:List (Nat×PV)}{pl:List (Nat×Nat)}(zs0:List PV)(hzs:zs0=zs)(ho:o.op= .build t parts)(hg:wants ops (St.mk sl ow nx).f o=some true)(hd:o.dst=some d)(hlt:K.can d=true)
  (hu:K.P.underlying t=some (.struct fs)) (hi:K.P.info? t=some inf) (hz:inf.zero=some z) (hzr: ∀(w:World) (Z:Nat->Prop),L2 (Rep w Z) z.cells.toList zs) (h1: ∀p∈zs,p.one=true) (hps:fq (St.mk sl ow nx).f parts.toList=some (f,ps)) (hpl:k8 K.P fs=some pl) (hcs:mF pl zs ps=some cs)
  (k:J K ops false rest ⟨(d,.val f (.agg cs))::sl,ow,nx⟩ R):J K ops false (o::rest) ⟨sl,ow,nx⟩ R:=by
 refine⟨TO.step hg ?_ k.out⟩;intro a w next Q hr hn
 obtain⟨φ,hφ⟩:=hr;obtain⟨cells',hfill,h3,h4⟩:=kA ps _ _ zs cs (i9 hφ parts.toList f ps hps) (hzr w _) h1 hcs;have hrun:(Instr.build t (parts.map λ(i,x)=>(i,a.eval x))).run K.P w= .ok (.agg cells') w:=by
  refine run_build w t _ cells' ?_;simp only[Program.built,hi,hu,hz];have:fs.toList.mapM (λf=>(K.P.info? f.type).map λi=>(f.offset,i.size))=some pl:=hpl;simp only[this];rw[<-hfill];simp
 have hrun2:(execOp a.eval o).run K.P w= .ok (.value (.agg cells')) w:=by
  simp only[execOp,ho,DK,hrun,DA,Dr]
 unfold Oper.wp;rw[hrun2];show next (a.put o.dst (.agg cells')) w
 rw[hd];refine hn _ _ ⟨φ,hφ.put hlt (v:= .agg cells') (sv:= .val f (.agg cs)) ?_ trivial Y slot_put⟩;have:(Value.agg cells')= .agg cells'.toList.toArray:=(by simp);rw[this];exact Rep.agg _ _ h3 h4
theorem Rel.meltB {a:Act}{w:World}{i qc q g:Nat}{e:TypeId}{sz:Nat}{frc fr:Bool}{cs:List PV}{u:Value}{rows:List (List PV)}(hM: ∀b,¬K.M b)(hc:(St.mk sl ow nx).f.own qc=some (.box frc cs))(hi:cs[i]? =some (.raw u))(hg:lk sl g=some (.eq u q))(ho:(St.mk sl ow nx).f.own q=some (.sl e sz fr rows))(hne:Nat.beq q qc=false)(h:Rel K ⟨sl,ow,nx⟩ a w):
  Rel K ⟨sl,(qc,some (.box (frc&&fr) (cs.set i (.sl rows))))::(q,none)::ow,nx⟩ a w:=by
 obtain⟨φ,hφ⟩:=h;have hne':q≠qc:=λe=>(by subst e;simp at hne);obtain⟨_,_,he⟩:=hφ.slot g _ hg;have he:φ q=u:=he;have hown': ∀i c,(St.mk sl ((q,none)::ow) nx).f.own i=some c->i≠q/\(St.mk sl ow nx).f.own i=some c:=by
  intro i c hq;simp only[St.f,ai]at hq;by_cases e:q=i;·rw[D4 e]at hq;cases hq
  ·rw[D2 e]at hq;exact⟨Ne.symm e,hq⟩
 have hZ: ∀f b,Zf K (St.mk sl ow nx).f φ f b->Zf K (St.mk sl ((q,none)::ow) nx).f φ f b:=
  λf b hb=>⟨⟨hb.1.1,λi c hq=>hb.1.2 i c (hown' i c hq).2⟩,hb.2⟩
 have h1:RelW K (St.mk sl ((q,none)::ow) nx).f (· <nx) φ a w:=by
  refine⟨hφ.df,hφ.sz,hφ.old,hφ.kept,?_,?_,?_,?_,?_,hφ.sin⟩
  ·intro i c hq;exact(hφ.own i c (hown' i c hq).2).mono (λ_ _=>rfl) λf b hb _=>⟨hZ f b hb,rfl⟩
  ·intro i c g hq;exact hφ.mine i c g (hown' i c hq).2
  ·intro i c hq;exact hφ.inU i c (hown' i c hq).2
  ·intro i i' c c' g hq hq';exact hφ.dis i i' c c' g (hown' i c hq).2 (hown' i' c' hq').2
  ·intro t sv h;obtain⟨v,hv,hr⟩:=hφ.slot t sv h;exact⟨v,hv,hr.mono (hφ.sin t sv h) (λf b hb _=>⟨hZ f b hb,rfl⟩) (λ_ _=>rfl)⟩
 have hfz:Rep w (Zf K (St.mk sl ((q,none)::ow) nx).f φ fr) u (.sl rows):=by
  rw[<-he];obtain⟨xs,hwn,hxl,h2,h3⟩:=hφ.own q _ ho;have hl':L2 (Rep w (Zf K (St.mk sl ((q,none)::ow) nx).f φ fr)) xs rows.flatten:=Rep.monoL (λb hb _=>⟨hZ fr b hb,rfl⟩) hxl;have hcell:=λg hg=>hwn.cells (g:=g) hg;have hlt:=hwn.lt;rcases hwn.2 with ⟨hv0,hn⟩|⟨g,cap,cur,hv0,_,hgc,hnc,hcm,_⟩
  ·rw[hv0];have:rows=[]:=DP hn;subst this;exact .nilsl
  ·have hvbp:VB (φ q) g:=(by rw[hv0];exact .inl Y);have hm:=hφ.mine q _ g ho hvbp;have hge:K.w0.heap.size<=g:=hm.resolve_right (hM g);rw[hv0]at hcell hlt⊢;refine .sl g 0 cap sz rows xs ⟨⟨.inl hge,λi c hq hvq=> ?_⟩,λ_=>K.hF _ hge⟩ (hlt g Y).2 h2 h3 (λj v hj=> ?_) hnc hcm hl'
   ·obtain⟨hne,hq'⟩:=hown' i c hq;exact hne (hφ.dis i q c _ g hq' ho hvq hvbp)
   ·have:=hcell g Y j v hj;rw[bD]at this;exact bY hgc this
 have hc':(St.mk sl ((q,none)::ow) nx).f.own qc=some (.box frc cs):=by
  simp only[St.f,ai];rw[D2 hne'];exact hc
 refine⟨φ,h1.reown hc' ?_⟩;obtain⟨g2,t,cur,hv,hb,hl,h3⟩:=h1.own qc _ hc';refine⟨g2,t,cur,hv,hb,L2.ofGet (by rw[E7];exact hl.length) λj v p hj hp=> ?_,λp hp=> ?_⟩
 ·by_cases e:i=j
  ·subst e;have hil:=(D5.1 hi).1;rw[E6 hil]at hp;cases hp;obtain⟨p',hp',hr⟩:=hl.getl hj;rw[hi]at hp';cases hp';cases hr;exact hfz.weak (by simp)
  ·rw[Ds e]at hp;obtain⟨p',hp',hr⟩:=hl.getl hj;rw[hp]at hp';cases hp';exact hr.weak (by simp;intro a _;exact a)
 ·rcases DV hp with hp|rfl;·exact h3 p hp
  ·rfl
end
def CM {σ:Type}(Es:σ->St)(e:Exit)(E:St):Prop:=e= .normal/\∃(s:σ) (keep os:List Nat),dup (gV E.f os)=false/\kF E keep os=Es s
theorem T.mids {σ:Type}{K:Ctx}{x y:Code}{E:St}{Q:Exit->St->Prop}(Es:σ->St)(hx:T K x E (CM Es))(hy: ∀s,T K y (Es s) Q):T K (.seq x y) E Q:=by
 refine .seq (hx.mono ?_);rintro e E2 ⟨rfl,s,keep,os,hd,he⟩;have:=hy s;rw[<-he]at this;exact T.canon hd this
section
variable {K:Ctx}{ops:Array Oper}{dr:Bool}{o:Oper}{rest:List Oper}{sl:List (Nat×SV)}{ow:List (Nat×Option Own)}{nx:Nat}{R:St->Prop}{d:Nat}
theorem J.xs {t:TypeId}{x i:Operand}{f1 f2:Bool}{s:ByteArray}{ki:IntKind}{n:Int}{b:UInt8}(ho:o.op= .index t x i)(hg:wants ops (St.mk sl ow nx).f o=some true)(hd:o.dst=some d)(hlt:K.can d=true)(hx:(St.mk sl ow nx).f.get x=some (.val f1 (.str s)))(hi:(St.mk sl ow nx).f.get i=some (.val f2 (.int ki n)))
  (hu:K.P.underlying t=some .string) (h0:0<=n) (hb:s[n.toNat]? =some b) (k:J K ops dr rest ⟨(d,.val true (.int .u8 b.toNat))::sl,ow,nx⟩ R):J K ops dr (o::rest) ⟨sl,ow,nx⟩ R:=by
 refine .does hg hd hlt (.gen (xs:=[x,i]) (l:=[.str s,.int ki n]) ?_ ?_ ?_) k;·rw[ho];simp[Op.operands]
 ·simp[du,hx,hi,SV.ff]
 ·intro a w hr;cases hr with
  |cons h1 hr=>
  cases hr with
  |cons h2 _=>
  generalize hv1:a.eval x=v1 at h1;generalize hv2:a.eval i=v2 at h2;cases h1;cases h2;refine⟨.int .u8 b.toNat,?_,λ_=> .int _ _⟩;simp only[execOp,ho,hv1,hv2,Instr.index,asIntOf,DK,Dr,DA,run_underlying hu,D4 h0,hb]
theorem J.ss {t:TypeId}{x y:Operand}{f1 f2:Bool}{s:ByteArray}{ky:IntKind}{h:Int}(n:Nat)(ho:o.op= .slice t x none (some y) none)(hg:wants ops (St.mk sl ow nx).f o=some true)(hd:o.dst=some d)(hlt:K.can d=true)(hx:(St.mk sl ow nx).f.get x=some (.val f1 (.str s)))(hy:(St.mk sl ow nx).f.get y=some (.val f2 (.int ky h)))
  (hu:K.P.underlying t=some .string) (hh:h=(n:Nat)) (hn:n<=s.size) (k:J K ops dr rest ⟨(d,.val true (.str (s.extract 0 n)))::sl,ow,nx⟩ R):J K ops dr (o::rest) ⟨sl,ow,nx⟩ R:=by
 subst hh;refine .does hg hd hlt (.gen (xs:=[x,y]) (l:=[.str s,.int ky n]) ?_ ?_ ?_) k;·rw[ho];simp[Op.operands]
 ·simp[du,hx,hy,SV.ff]
 ·intro a w hr;cases hr with
  |cons h1 hr=>
  cases hr with
  |cons h2 _=>
  generalize hv1:a.eval x=v1 at h1;generalize hv2:a.eval y=v2 at h2;cases h1;cases h2;refine⟨.string (s.extract 0 n),?_,λ_=> .str _⟩;have hb2:(Instr.sliceBounds false s.size s.size none (some (.int ky n)) none).run K.P w= .ok (0,n,s.size) w:=by
   simp only[Instr.sliceBounds,DK,Dr,DA];rw[run_sliceBound w ky n s.size _ (by omega) (by omega)];rfl
  simp only[execOp,ho,hv1,hv2,DK,Instr.sliceAt,Instr.slice,run_underlying hu,DA,FN,EG,Gq,EF,if_false,hb2,Dr]
theorem J.adf {args:Array Operand}{tys:Array TypeId}{s y:Operand}{t e:TypeId}{q sz:Nat}{fr fy:Bool}{rows rows2:List (List PV)}{sy:SV}{inf:TypeInfo}{z:Value}(hM: ∀b,¬K.M b)
  (ho:o.op= .call { callee:= .builtin .append,args:=args,argTypes:=tys }) (ha:args.toList=[s,y]) (ht:tys.toList=[t,t]) (hg:wants ops (St.mk sl ow nx).f o=some true) (hd:o.dst=some d) (hlt:K.can d=true)
  (hs:(St.mk sl ow nx).f.get s=some (.ref q)) (hq:(St.mk sl ow nx).f.own q=some (.sl e sz fr rows)) (hy:(St.mk sl ow nx).f.get y=some sy) (hp:(St.mk sl ow nx).f.pvf sy=some (fy,.sl rows2))
  (hu:K.P.underlying t=some (.slice e)) (hi:K.P.info? e=some inf) (hsz:inf.size=sz) (hz:inf.zero=some z) (hzs:z.cells.size=sz) (h0:Nat.blt 0 sz=true) (hb1:Nat.ble 1 inf.bytes=true)
  (hl2: ∀r∈rows2,r.length=sz) (hby:(rows.length+rows2.length)*inf.bytes<=140737488355328)
  (k:J K ops true rest ⟨(d,.val (fr&&fy) (.sl (rows++rows2)))::sl,(q,none)::ow,nx⟩ R):J K ops true (o::rest) ⟨sl,ow,nx⟩ R:=by
 obtain⟨E',h1,h2⟩:=k.out;refine⟨E',?_,h2⟩;have hro:RO K ops (St.mk sl ow nx).f o ⟨some d,.val (fr&&fy) (.sl (rows++rows2)),[],nx,some (q,none)⟩:= .appf hg hd hlt hM (.own ho ha ht hs hq hy hp hu hi hsz hz hzs (by simpa[Fd]using h0) (Dy hb1) hl2 hby);refine TD.step (r:=⟨some d,.val (fr&&fy) (.sl (rows++rows2)),[],nx,some (q,none)⟩) hro ?_;have e1:upd (St.mk sl ow nx).f ⟨some d,.val (fr&&fy) (.sl (rows++rows2)),[],nx,some (q,none)⟩=(St.mk ((d,.val (fr&&fy) (.sl (rows++rows2)))::sl) ((q,none)::ow) nx).f:=by
  refine EnvF.ext (λs=> ?_) (λi=> ?_);·simp only[upd,St.f,ai,D6]
  ·simp only[upd,St.f,ai];by_cases e1:i=q;·rw[D4 e1,D4 e1.symm];rfl
   ·rw[D2 e1,D2 (Ne.symm e1)];exact bX _ _ _
 rw[e1];exact h1
end
def Zx (w:World)(Z:Bool->Nat->Prop)(us:List Value)(f:Bool)(b:Nat):Prop:=(Z f b∨w.heap.size<=b)/\Off us b
def rC (w:World)(Z:Bool->Nat->Prop)(us gs:List Value)(cs':List Value->List Own)(news:List Value->List Own)(rf:Bool)(res:List Value->List PV)(x:Ending)(w':World):Prop:=
 ∃rs ns:List Value,x= .returned (l8 rs)/\w'.os=w.os/\w'.tape=w.tape/\w'.output=w.output/\w.heap.size<=w'.heap.size/\(∀b,b<w.heap.size->Off (us++gs) b->w'.heap[b]? =w.heap[b]?)/\
  L2 (ar w' (Zx w Z (us++ns))) us (cs' ns)/\L2 (ar w' (Zx w Z (us++ns))) ns (news ns)/\(∀u g,u∈ns->VB u g->w.heap.size<=g∨∃v,v∈gs/\VB v g)/\gF (us++ns)/\L2 (Rep w' (Zx w Z (us++ns) rf)) rs (res ns)
structure PreX (w:World)(Z:Bool->Nat->Prop)(us gs:List Value)(cs ds:List Own)(args:List (Bool×PV))(vs:List Value):Prop where
 tf: ∀b,Z true b->Z false b
 own1:L2 (ar w Z) us cs
 own2:L2 (ar w Z) gs ds
 ap:gF (us++gs)
 off: ∀b,Z false b->Off (us++gs) b
 args:L2 (λv p=>Rep w (Z p.1) v p.2) vs args
structure SpecX (P:Program)(f:FuncId)(us gs:List Value)(cs ds:List Own)(args:List (Bool×PV))(cs':List Value->List Own)(news:List Value->List Own)(rf:Bool)(res:List Value->List PV):Prop where
 isFn: ∃fn,P.funcs[f]? =some fn/\fn.body.isSome=true/\(fn.name== "runtime.NumGoroutine")=false
 out: ∀(w:World) (Z:Bool->Nat->Prop) (vs:List Value),PreX w Z us gs cs ds args vs->Calls P f vs.toArray w (rC w Z us gs cs' news rf res)
def Ctx.ofX (P:Program)(w0:World)(us gs:List Value)(Z:Bool->Nat->Prop)(n:Nat):Ctx:=⟨P,w0,Z false,λb=> ∃u,u∈us++gs/\VB u b,n,λb=>w0.heap.size<=b∨Z true b,λ_ h=> .inl h,0,[],[]⟩
def lF:Nat->List (Bool×PV)->List (Nat×SV)
 |_,[]=>[]
 |k,p::ps=>(k,.val p.1 p.2)::lF (k+1) ps
def oK:Nat->List Own->List (Nat×Option Own)
 |_,[]=>[]
 |i,c::cs=>(i,some c)::oK (i+1) cs
def na (gl:List Nat)(us gs:List Value)(cs ds:List Own)(args:List (Bool×PV)):St:=⟨lF 0 args++wT 0 gl (us++gs),oK 0 (cs++ds),(cs++ds).length⟩
def j5 (E:EnvF):List Nat->List Value->List Own->List Nat->Prop
 |g::gs,u::us,c::cs,q::qs=>E.slot g=some (.eq u q)/\(∃c2,E.own q=some c2/\c2.reg c.fr=c/\(!c.fr||c2.fr)=true)/\j5 E gs us cs qs
 | [],[],[],[]=>True
 |_,_,_,_=>False
def pU (P:Program)(fn:Func)(us:List Value)(gl:List Nat)(cs':List Value->List Own)(news:List Value->List Own)(hs:List Nat)(rf:Bool)(res:List Value->List PV)(x:Exit)(E:St):Prop:=
 match x with
 | .normal| .ret=> ∃(qs rs:List Nat) (ns:List Value),j5 E.f (gl.take us.length) us (cs' ns) qs/\j5 E.f hs ns (news ns) rs/\dup (qs++rs)=false/\Ret P E.f (!rf) fn.results.toList ((res ns).map .val) []
 |_=>False
theorem mh {w:World}{Z Z':Bool->Nat->Prop}{u:Value}{c c2:Own}(h:ar w Z u c2)(e:c2.reg c.fr=c)(hf:(!c.fr||c2.fr)=true)(tf: ∀b,Z true b->Z false b)(hz: ∀b,Z c.fr b->Z' c.fr b):ar w Z' u c:=by
 have h1:ar w (λ_=>Z c.fr) u c2:=oI h λb hb=>by
  cases hc:c.fr with
  |true=>rw[hc]at hf;simp at hf;rw[hf]at hb;exact hb
  |false=>
   cases hc2:c2.fr with
   |true=>rw[hc2]at hb;exact tf b hb
   |false=>rw[hc2]at hb;exact hb
 have h2:=gN (Zb:=Z') (f:=c.fr) h1 hz;rwa[e]at h2
theorem oX: ∀(ps:List (Bool×PV)) (k s:Nat) (sv:SV),lk (lF k ps) s=some sv->∃j p,s=k+j/\ps[j]? =some p/\sv= .val p.1 p.2
 | [],k,s,sv,h=>by simp[lF,lk]at h
 |p::ps,k,s,sv,h=>by
  simp only[lF,ai]at h;by_cases e:k=s
  ·rw[D4 e]at h;obtain rfl:=D3 h;exact⟨0,p,by omega,by simp,rfl⟩
  ·rw[D2 e]at h;obtain⟨j,q,h1,h2,h3⟩:=oX ps (k+1) s sv h;exact⟨j+1,q,by omega,by simpa using h2,h3⟩
theorem qL: ∀(cs:List Own) (i o:Nat) (c:Own),(lk (oK i cs) o).join=some c->∃j,o=i+j/\cs[j]? =some c
 | [],i,o,c,h=>by simp[oK,lk]at h
 |c0::cs,i,o,c,h=>by
  simp only[oK,ai]at h;by_cases e:i=o
  ·rw[D4 e]at h;exact⟨0,by omega,by simpa using h⟩
  ·rw[D2 e]at h;obtain⟨j,h1,h2⟩:=qL cs (i+1) o c h;exact⟨j+1,by omega,by simpa using h2⟩
theorem gW {E:EnvF}: ∀{gs:List Nat} {us:List Value} {cs:List Own} {qs:List Nat},j5 E gs us cs qs->(us.length=cs.length/\qs.length=cs.length)/\∀(i:Nat) (q:Nat),qs[i]? =some q->∃u c c2 g,us[i]? =some u/\cs[i]? =some c/\E.own q=some c2/\c2.reg c.fr=c/\(!c.fr||c2.fr)=true/\E.slot g=some (.eq u q)
 |g::gs,u::us,c::cs,q::qs,h=>by
  obtain⟨h1,⟨c2,h2,h2a,h2b⟩,h3⟩:=h;obtain⟨⟨h4,h5⟩,h6⟩:=gW h3;refine⟨⟨by simp[h4],by simp[h5]⟩,λi p hp=> ?_⟩;cases i with
  |zero=>simp at hp;subst hp;exact⟨u,c,c2,g,rfl,rfl,h2,h2a,h2b,h1⟩
  |succ i=>simp at hp;simpa using h6 i p hp
 | [],[],[],[],_=>⟨⟨rfl,rfl⟩,λi q hq=>by simp at hq⟩
theorem ot {K:Ctx}{E:EnvF}{U:Nat->Prop}{φ:Nat->Value}{a:Act}{w:World}{rf:Bool}(h:RelW K E U φ a w): ∀{rs:List ResultVar} {res:List PV},Ret K.P E (!rf) rs (res.map .val) []->
  ∃ws:List Value,(rs.mapM (bZ a.tmps)).run K.P w= .ok ws w/\L2 (Rep w (Zf K E φ rf)) ws res
 | [],[],_=>⟨[],rfl,.nil⟩
 |_::rs,p::res,hr=>by
  have hstep: ∀{t:ResultVar},(∃v,(bZ a.tmps t).run K.P w= .ok v w/\Rep w (Zf K E φ rf) v p)->Ret K.P E (!rf) rs (res.map .val) []->∃ws:List Value,((t::rs).mapM (bZ a.tmps)).run K.P w= .ok ws w/\L2 (Rep w (Zf K E φ rf)) ws (p::res):=by
   rintro t ⟨v,hv,hrep⟩ hrest;obtain⟨ws,h1,h2⟩:=ot h hrest;refine⟨v::ws,?_,.cons hrep h2⟩;simp only[Fg,DK,hv,DA,h1,Dr]
  have hz: ∀fr:Bool,((!rf)=false->fr=true)->∀b,Zf K E φ fr b->Zf K E φ rf b:=λfr hf b hb=>⟨hb.1,λe=>hb.2 (hf (by rw[e];rfl))⟩;cases hr with
  | @val t sv fr _ _ _ _ hs hff hfr hrest=>
   have hx:E.get (.tmp t)=some sv:=hs;exact hstep ⟨_,by simp only[bZ,Dr];rfl,Rep.mono (λb hb _=>⟨hz fr hfr b hb,rfl⟩) (bC h hx hff)⟩ hrest
  | @cell t ty q fr row _ _ _ _ hs hq hp hfr hrest=>
   refine hstep ?_ hrest;obtain⟨v,hv,g,hg,e⟩:=h.slot t _ hs;have hat:(Own.box fr row).at_ 0 0 0=some (fr,row):=rfl;have hc:=ju (h.own q _ hq) hat hg;obtain⟨u,hu,hrep⟩:=fS hc hp;refine⟨u,?_,Rep.mono (λb hb _=>⟨hz fr hfr b hb,rfl⟩) hrep⟩;have e2:a.tmps.getD t undef= .pointer (some ⟨g,0,none⟩):=by
    rw[hv,e]
   simp only[bZ,e2,asAddr,DK,Dr,DA];simpa[Instr.loadAt,Instr.sureAddr]using hu
 | [],_::_,hr=>by cases hr
 |_::_,[],hr=>by cases hr
theorem PreX.rel {P:Program}{n:Nat}{us gs:List Value}{cs ds:List Own}{args:List (Bool×PV)}{w:World}{Z:Bool->Nat->Prop}{vs:List Value}(gl:List Nat)(h:PreX w Z us gs cs ds args vs)(hl:args.length<=n):
  Rel (Ctx.ofX P w us gs Z n) (na gl us gs cs ds args) { tmps:=vs.toArray++Array.replicate (n-vs.toArray.size) undef,defers:=[] } w:=by
 obtain⟨tf,hus,hgs,hap,hoff,hvs⟩:=h;have hown:=hus.append hgs;have hvl:=hvs.length;have hul:=hown.length;let φ0:Nat->Value:=λi=>(us++gs).getD i undef;have hφ0: ∀j u,(us++gs)[j]? =some u->φ0 j=u:=λj u hu=>(by simp[φ0,D0,hu]);have hown0: ∀o c,(na gl us gs cs ds args).f.own o=some c->∃u,(cs++ds)[o]? =some c/\(us++gs)[o]? =some u/\φ0 o=u/\ar w Z u c:=by
  intro o c ho;obtain⟨j,h1,h2⟩:=qL (cs++ds) 0 o c ho;obtain rfl:o=j:=(by omega);obtain⟨u,hu,hr⟩:=hown.get h2;exact⟨u,h2,hu,hφ0 _ _ hu,hr⟩
 have hoffo: ∀b,Off (us++gs) b->∀o c,(na gl us gs cs ds args).f.own o=some c->¬VB (φ0 o) b:=by
  intro b hb o c ho;obtain⟨u,_,hu,e,_⟩:=hown0 o c ho;rw[e];exact hb u (D7 hu)
 have hz: ∀f b,Z f b->Zf (Ctx.ofX P w us gs Z n) (na gl us gs cs ds args).f φ0 f b:=λf b hb=>by
  have h0:Z false b:=by
   cases f with
   |false=>exact hb
   |true=>exact tf b hb
  exact⟨⟨.inr h0,hoffo b (hoff b h0)⟩,λe=>by subst e;exact .inr hb⟩
 have hsz:(vs.toArray++Array.replicate (n-vs.toArray.size) undef).size=n:=(by simp;omega);have ht: ∀(j:Nat) v,vs[j]? =some v->(vs.toArray++Array.replicate (n-vs.toArray.size) undef)[j]? =some v:=by
  intro j v hv;have hj:j<vs.length:=(D5.1 hv).1;rw[FJ (by simpa using hj)];simpa using hv
 have htd: ∀(j:Nat) v,vs[j]? =some v->(vs.toArray++Array.replicate (n-vs.toArray.size) undef).getD j undef=v:=λj v h=>(by rw[E5,ht j v h];rfl);refine⟨φ0,rfl,hsz,λs v hs=>DU hs (EO s),⟨rfl,rfl,rfl,DL _,λ_ _ _=>rfl⟩,?_,?_,?_,?_,?_,?_⟩
 ·intro o c ho;obtain⟨u,h1,h2,e,hr⟩:=hown0 o c ho;rw[e];exact hr.mono (λ_ _=>rfl) λf b hb _=>⟨hz f b hb,rfl⟩
 ·intro o c g ho hg;obtain⟨u,_,hu,e,_⟩:=hown0 o c ho;rw[e]at hg;exact .inr ⟨u,D7 hu,hg⟩
 ·intro o c ho;obtain⟨u,h1,_⟩:=hown0 o c ho;exact(D5.1 h1).1
 ·intro o o' c c' g ho ho' hg hg';obtain⟨u,_,hu,e,_⟩:=hown0 o c ho;obtain⟨u',_,hu',e',_⟩:=hown0 o' c' ho';rw[e]at hg;rw[e']at hg';exact hap o o' u u' g hu hu' hg hg'
 ·intro s sv hs;rcases lk_app _ _ s sv hs with h1|h1
  ·obtain⟨j,p,rfl,hp,rfl⟩:=oX args 0 s sv h1;obtain⟨v,hv,hr⟩:=hvs.get hp;exact⟨v,htd (0+j) v (by simpa using hv),Rep.mono (λb hb _=>⟨hz _ b hb,rfl⟩) hr⟩
  ·obtain⟨j,u,h2,h3,rfl⟩:=lz gl (us++gs) 0 s sv h1;exact⟨_,rfl,by show φ0 (0+j)=u;rw[Ew];exact hφ0 j u h3⟩
 ·intro s sv hs;rcases lk_app _ _ s sv hs with h1|h1
  ·obtain⟨j,p,rfl,hp,rfl⟩:=oX args 0 s sv h1;trivial
  ·obtain⟨j,u,h2,h3,rfl⟩:=lz gl (us++gs) 0 s sv h1;have:j<(us++gs).length:=(D5.1 h3).1;show 0+j<(cs++ds).length;omega
theorem pU.post {P:Program}{fn:Func}{us gs:List Value}{cs':List Value->List Own}{news:List Value->List Own}{rf:Bool}{res:List Value->List PV}{gl hs:List Nat}{w w':World}{Z:Bool->Nat->Prop}{n:Nat}{E:St}{φ:Nat->Value}{a:Act}(tf: ∀b,Z true b->Z false b)(hφ:RelW (Ctx.ofX P w us gs Z n) E.f (· <E.nx) φ a w')
  (hh: ∃(qs rs:List Nat) (ns:List Value),j5 E.f (gl.take us.length) us (cs' ns) qs/\j5 E.f hs ns (news ns) rs/\dup (qs++rs)=false/\Ret P E.f (!rf) fn.results.toList ((res ns).map .val) []):
  ∃v,(results fn a.tmps).run P w'= .ok v w'/\rC w Z us gs cs' news rf res (.returned v) w':=by
 obtain⟨qs,rs,ns,hk1,hk2,hdup,hret⟩:=hh;obtain⟨ws,h1,h2⟩:=ot hφ hret;have hk:=hφ.kept;obtain⟨⟨hl1,hl2⟩,hat1⟩:=gW hk1;obtain⟨⟨hl3,hl4⟩,hat2⟩:=gW hk2;have heq: ∀g u q,E.f.slot g=some (.eq u q)->φ q=u:=λg u q hg=>(by obtain⟨_,_,e⟩:=hφ.slot g _ hg;exact e);have hinj:=fz (qs++rs) hdup;have hall: ∀(i:Nat) u,(us++ns)[i]? =some u->∃q c2,(qs++rs)[i]? =some q/\E.f.own q=some c2/\φ q=u:=by
  intro i u hi;by_cases hlt:i<us.length
  ·rw[E9 hlt]at hi;have hq:i<qs.length:=(by omega);obtain⟨u',c,c2,g,h3,_,h4,_,_,h5⟩:=hat1 i _ (D1 hq);rw[hi]at h3;cases h3;exact⟨qs[i],c2,by rw[E9 hq];exact D1 hq,h4,heq g u _ h5⟩
  ·rw[Dw (by omega)]at hi;have hlt2:=(D5.1 hi).1;have hq:i-us.length<rs.length:=(by omega);obtain⟨u',c,c2,g,h3,_,h4,_,_,h5⟩:=hat2 _ _ (D1 hq);rw[hi]at h3;cases h3;exact⟨rs[i-us.length],c2,by rw[Dw (by omega),show i-qs.length=i-us.length by omega];exact D1 hq,h4,heq g u _ h5⟩
 have hzz: ∀f b,Zf (Ctx.ofX P w us gs Z n) E.f φ f b->Zx w Z (us++ns) f b:=by
  intro f b hb;refine⟨?_,λu hu=> ?_⟩
  ·cases f with
   |true=>exact(hb.2 Y).elim .inr .inl
   |false=>exact hb.1.1.elim .inr .inl
  ·obtain⟨i,hi⟩:=DH hu;obtain⟨q,c2,_,h4,rfl⟩:=hall i u hi;exact hb.1.2 q c2 h4
 have htf: ∀b,Zf (Ctx.ofX P w us gs Z n) E.f φ true b->Zf (Ctx.ofX P w us gs Z n) E.f φ false b:=λb hb=>⟨hb.1,λe=>by cases e⟩;have hto: ∀u q c c2 g,E.f.slot g=some (.eq u q)->E.f.own q=some c2->c2.reg c.fr=c->(!c.fr||c2.fr)=true->ar w' (Zx w Z (us++ns)) u c:=by
  intro u q c c2 g hg ho e hf;rw[<-heq g u q hg];exact mh (hφ.own q c2 ho) e hf htf λb hb=>hzz _ b hb
 have hap:gF (us++ns):=by
  intro i j u v g hi hj hg hg';obtain⟨q,c,h3,h4,rfl⟩:=hall i u hi;obtain⟨q',c',h5,h6,rfl⟩:=hall j v hj;have:=hφ.dis q q' c c' g h4 h6 hg hg';subst this;exact hinj i j q h3 h5
 refine⟨l8 ws,?_,ws,ns,rfl,hk.os,hk.tape,hk.output,hk.size,λb hb hne=>hk.block b hb (λ⟨u,hu,hv⟩=>hne u hu hv),?_,?_,?_,hap,h2.imp λv p hp=>Rep.mono (λb hb _=>⟨hzz _ b hb,rfl⟩) hp⟩
 ·have e:results fn a.tmps=(do let vs<-fn.results.mapM (bZ a.tmps);pure (if h:vs.size=1 then vs[0]else .tuple vs)):=by
   unfold results;congr
  have h1':(fn.results.toList.mapM (bZ a.tmps)).run P w'= .ok ws w':=h1;rw[e,FO];simp only[DK,Gw,h1',DA];cases ws with
  |nil=>rfl
  |cons v ws=>cases ws with
   |nil=>rfl
   |cons v' ws=>rfl
 ·exact L2.ofGet hl1 λi u c hi hc=>by
   have hq:i<qs.length:=(by have:=(D5.1 hi).1;omega);obtain⟨u',c',c2,g,h3,h4,h5,h6,h7,h8⟩:=hat1 i _ (D1 hq);rw[hi]at h3;cases h3;rw[hc]at h4;cases h4;exact hto u _ c c2 g h8 h5 h6 h7
 ·exact L2.ofGet hl3 λi u c hi hc=>by
   have hq:i<rs.length:=(by have:=(D5.1 hi).1;omega);obtain⟨u',c',c2,g,h3,h4,h5,h6,h7,h8⟩:=hat2 i _ (D1 hq);rw[hi]at h3;cases h3;rw[hc]at h4;cases h4;exact hto u _ c c2 g h8 h5 h6 h7
 ·intro u g hu hg;obtain⟨i,hi⟩:=DH hu;have hi2:(us++ns)[us.length+i]? =some u:=(by rw[Dw (by omega)];simpa using hi);obtain⟨q,c,h3,h4,rfl⟩:=hall _ u hi2;rcases hφ.mine q c g h4 hg with hge|⟨v,hv,hvg⟩;·exact .inl hge
  ·rcases DT.1 hv with hv|hv
   ·exfalso;obtain⟨j,hj⟩:=DH hv;have hjl:=(D5.1 hj).1;have:=hap j (us.length+i) v (φ q) g (by rw[E9 hjl];exact hj) hi2 hvg hg;omega
   ·exact .inr ⟨v,hv,hvg⟩
theorem pU.wp {P:Program}{fn:Func}{c:Code}{us gs:List Value}{cs ds:List Own}{cs' news:List Value->List Own}{args:List (Bool×PV)}{rf:Bool}{res:List Value->List PV}(gl hs:List Nat)(hl:Nat.ble args.length fn.ntmps=true)
  (h: ∀w0 Z,T (Ctx.ofX P w0 us gs Z fn.ntmps) c (na gl us gs cs ds args) (pU P fn us gl cs' news hs rf res)) {w:World} {Z:Bool->Nat->Prop} {vs:List Value} (hp:PreX w Z us gs cs ds args vs):
  c.wp P (bodyPost P fn (rC w Z us gs cs' news rf res)) { tmps:=vs.toArray++Array.replicate (fn.ntmps-vs.toArray.size) undef,defers:=[] } w:=by
 refine wp_mono ((h w Z).out _ w (hp.rel gl (Dy hl))) λx a w' ⟨hfe,E,hq,φ,hφ⟩=> ?_;have key:=λhh=>(pU.post (fn:=fn) (cs':=cs') (news:=news) (rf:=rf) (res:=res) (gl:=gl) (hs:=hs) hp.tf hφ hh);cases x with
 |normal=>exact⟨hφ.df,key hq⟩
 |ret=>exact⟨hφ.df,key hq⟩
 |exit id=>exact hq.elim
 |goto l=>exact hq.elim
 |panic ch=>simp[fine]at hfe
 |outgrown=>simp[fine]at hfe
theorem SpecX.body {P:Program} {f:FuncId} {fn:Func} {c:Code} {us gs:List Value} {cs ds:List Own} {cs' news:List Value->List Own} {args:List (Bool×PV)} {rf:Bool} {res:List Value->List PV} (gl hs:List Nat) (hf:P.funcs[f]? =some fn) (hb:fn.body=some c) (hn:(fn.name== "runtime.NumGoroutine")=false) (hl:Nat.ble args.length fn.ntmps=true)
  (h: ∀w0 Z,T (Ctx.ofX P w0 us gs Z fn.ntmps) c (na gl us gs cs ds args) (pU P fn us gl cs' news hs rf res)):SpecX P f us gs cs ds args cs' news rf res:=
 ⟨⟨fn,hf,by rw[hb];rfl,hn⟩,λw Z vs hp=>calls_of_wp hf hb (pU.wp gl hs hl h hp)⟩
theorem Rel.pf {K:Ctx}{sl:List (Nat×SV)}{ow:List (Nat×Option Own)}{nx s:Nat}{fr:Bool}{cs:List PV}(hs:lk sl s=some (.val fr (.ptr cs)))(a:Act)(w:World)(h:Rel K ⟨sl,ow,nx⟩ a w):Rel K ⟨(s,.fptr fr cs)::sl,ow,nx⟩ a w:=by
 obtain⟨φ,hφ⟩:=h;refine⟨φ,hφ.df,hφ.sz,hφ.old,hφ.kept,hφ.own,hφ.mine,hφ.inU,hφ.dis,?_,?_⟩
 ·intro t sv hsv;rcases slot_put t sv hsv with ⟨rfl,rfl⟩|⟨_,h⟩
  ·obtain⟨v,hv,hr⟩:=hφ.slot t _ hs;obtain⟨b,o,xs,e,hz,hlt,h2,h1,h3⟩:=kY hr;exact⟨v,hv,b,o,xs,e,hz,hlt,h2,h1,h3⟩
  ·exact hφ.slot t sv h
 ·intro t sv hsv;rcases slot_put t sv hsv with ⟨rfl,rfl⟩|⟨_,h⟩;·trivial
  ·exact hφ.sin t sv h
theorem Rel.ecp {K:Ctx}{sl:List (Nat×SV)}{ow:List (Nat×Option Own)}{nx:Nat}(g2 g:Nat){u:Value}{o:Nat}(hg:lk sl g=some (.eq u o))(a:Act)(w:World)(h:Rel K ⟨sl,ow,nx⟩ a w):Rel K ⟨(g2,.eq u o)::sl,ow,nx⟩ a w:=by
 obtain⟨φ,hφ⟩:=h;obtain⟨v,hv⟩:=eI hφ (g:=g2) Y;obtain⟨_,_,e⟩:=hφ.slot g _ hg;exact⟨φ,hφ.reslot (sv:= .eq u o) hv e (hφ.sin g (.eq u o) hg) Y slot_put⟩
def ij:List Nat->List (Nat×Option Own)->List (Nat×Option Own)
 |q::qs,ow=>(q,none)::ij qs ow
 | [],ow=>ow
def ib:List Nat->List Own->List (Nat×Option Own)->List (Nat×Option Own)
 |q::qs,c::cs,ow=>(q,some c)::ib qs cs ow
 |_,_,ow=>ow
def ik:Nat->List Own->List (Nat×Option Own)->List (Nat×Option Own)
 |n,c::cs,ow=>(n,some c)::ik (n+1) cs ow
 |_,[],ow=>ow
theorem qN {ow:List (Nat×Option Own)}: ∀(qs:List Nat) (i:Nat) (c:Own),(lk (ij qs ow) i).join=some c->i∉qs/\(lk ow i).join=some c
 | [],i,c,h=>⟨by simp,h⟩
 |q::qs,i,c,h=>by
  simp only[ij,ai]at h;by_cases e:q=i;·rw[D4 e]at h;simp at h
  ·rw[D2 e]at h;obtain⟨h1,h2⟩:=qN qs i c h;exact⟨by simp[h1,Ne.symm e],h2⟩
theorem lk_setOwX {ow:List (Nat×Option Own)}: ∀(qs:List Nat) (cs:List Own) (i:Nat) (c:Own),qs.length=cs.length->(lk (ib qs cs ow) i).join=some c->(∃j:Nat,qs[j]? =some i/\cs[j]? =some c)∨(i∉qs/\(lk ow i).join=some c)
 | [],[],i,c,_,h=> .inr ⟨by simp,h⟩
 |q::qs,c0::cs,i,c,hl,h=>by
  simp only[ib,ai]at h;by_cases e:q=i
  ·rw[D4 e]at h;exact .inl ⟨0,by simp[e],by simpa using h⟩
  ·rw[D2 e]at h;rcases lk_setOwX qs cs i c (by simpa using hl) h with ⟨j,h1,h2⟩|⟨h1,h2⟩;·exact .inl ⟨j+1,by simpa using h1,by simpa using h2⟩
   ·exact .inr ⟨by simp[h1,Ne.symm e],h2⟩
 | [],_::_,_,_,hl,_=>by simp at hl
 |_::_,[],_,_,hl,_=>by simp at hl
theorem lk_newOwX {ow:List (Nat×Option Own)}: ∀(cs:List Own) (n i:Nat) (c:Own),(lk (ik n cs ow) i).join=some c->(∃j:Nat,i=n+j/\cs[j]? =some c)∨(¬(n<=i/\i<n+cs.length)/\(lk ow i).join=some c)
 | [],n,i,c,h=> .inr ⟨by simp,h⟩
 |c0::cs,n,i,c,h=>by
  simp only[ik,ai]at h;by_cases e:n=i
  ·rw[D4 e]at h;exact .inl ⟨0,by omega,by simpa using h⟩
  ·rw[D2 e]at h;rcases lk_newOwX cs (n+1) i c h with ⟨j,h1,h2⟩|⟨h1,h2⟩;·exact .inl ⟨j+1,by omega,by simpa using h2⟩
   ·exact .inr ⟨by simp only[Dp];omega,h2⟩
def Cu (V:EnvF)(us:List Value)(qs:List Nat)(x:Operand):Option (Bool×PV):=
 match V.get x with
 |some (.optr q 0 0 0)=>match V.own q,idx qs q with
  |some (.box _ _),some i=>(us[i]?).map λu=>(true,.raw u)
  |_,_=>none
 |some (.ref q)=>match V.own q,idx qs q with
  |some (.fam ..),_=>none
  |some _,some i=>(us[i]?).map λu=>(true,.raw u)
  |_,_=>none
 |some sv=>match sv.ff with
  |some (fr,p)=>some (fr||p.flat,p)
  |none=>none
 |none=>none
def vj (V:EnvF)(us:List Value)(qs:List Nat):List Operand->Option (List (Bool×PV))
 | []=>some []
 |x::xs=>match Cu V us qs x,vj V us qs xs with
  |some p,some l=>some (p::l)
  |_,_=>none
def leX:List (Bool×PV)->List (Bool×PV)->Bool
 |p::l,q::m=>(!q.1||p.1)&&leX l m
 | [],[]=>true
 |_,_=>false
def zp (fx:Bool)(l:List PV):List (Bool×PV):=l.map λp=>(fx||p.flat,p)
section
variable {w:World}{Z:Bool->Nat->Prop}
theorem qP (tf: ∀b,Z true b->Z false b): ∀{vs:List Value} {ps qs:List (Bool×PV)},L2 (λv (p:Bool×PV)=>Rep w (Z p.1) v p.2) vs ps->ps.map (·.2)=qs.map (·.2)->leX ps qs=true->L2 (λv (p:Bool×PV)=>Rep w (Z p.1) v p.2) vs qs
 | [],[],[],_,_,_=> .nil
 |v::vs,p::ps,q::qs,.cons h h2,he,hle=>by
  simp only[DZ,List.cons.injEq]at he;simp only[leX,DJ]at hle;refine .cons ?_ (qP tf h2 he.2 hle.2);rw[<-he.1];refine Rep.mono (λb hb _=>⟨?_,rfl⟩) h;obtain⟨f,p'⟩:=p;obtain⟨g,q'⟩:=q;cases f<;>cases g<;>first|exact hb|exact tf b hb|simp at hle
 | [],[],_::_,_,_,hle=>by simp[leX]at hle
 |_::_,_::_,[],_,_,hle=>by simp[leX]at hle
theorem kE {fx:Bool}: ∀{vs:List Value} {ps:List PV},L2 (Rep w (Z fx)) vs ps->L2 (λv (p:Bool×PV)=>Rep w (Z p.1) v p.2) vs (zp fx ps)
 | [],[],.nil=> .nil
 |v::vs,p::ps,.cons h h2=>by
  refine .cons ?_ (kE h2);show Rep w (Z (fx||p.flat)) v p;cases hf:p.flat with
  |true=>exact h.flat hf
  |false=>rw[Bool.or_false];exact h
end
section
variable {K:Ctx}{V:EnvF}{U:Nat->Prop}{φ:Nat->Value}{a:Act}{w:World}
theorem Bi {Z:Bool->Nat->Prop}{v:Value}{c:Own}(h:ar w Z v c)(hc:(match c with| .fam .. =>false|_=>true)=true):v.oneCell'=true:=by
 cases c with
 |sl e sz fr rows=>
  obtain⟨xs,ho,_⟩:=h;rcases ho.2 with ⟨rfl,_⟩|⟨g,cap,cur,rfl,_⟩<;>rfl
 |box fr row=>obtain⟨g',t,cur,rfl,_⟩:=h;rfl
 |fam e sz fr l=>cases hc
 |mp fr b l=>obtain⟨g',es,clock,rfl,_⟩:=h;rfl
 |it m since seen last=>obtain⟨g',rfl,_⟩:=h;rfl
 |sit s pos=>obtain⟨g',rfl,_⟩:=h;rfl
theorem xd (h:RelW K V U φ a w){us:List Value}{qs:List Nat}(hval: ∀(i q:Nat) (u:Value),qs[i]? =some q->us[i]? =some u->φ q=u){x:Operand}{p:Bool×PV}(hp:Cu V us qs x=some p):Rep w (Zf K V φ p.1) (a.eval x) p.2:=by
 unfold Cu at hp;split at hp
 ·rename_i q hx;obtain⟨hr,_⟩:=ae h hx;split at hp
  ·rename_i fr row i ho hi;obtain⟨u,hu,rfl⟩:=DY.1 hp;have e:=hval i q u (d6 qs q i hi) hu;obtain⟨g,hg,hv⟩:=hr;obtain⟨g',t,cur,e2,_⟩:=h.own q _ ho;rw[e2]at hg;simp only[ax,D6]at hg;subst hg;rw[hv,show 0*0+0=0 from Y,<-e2,e];exact .raw u (by rw[<-e,e2];rfl)
  ·cases hp
 ·rename_i q hx;obtain⟨hr,_⟩:=ae h hx;split at hp;·cases hp
  ·rename_i c i hno ho hi;obtain⟨u,hu,rfl⟩:=DY.1 hp;have e:=hval i q u (d6 qs q i hi) hu;have hr:a.eval x=φ q:=hr;rw[hr,e];exact .raw u (by rw[<-e];exact Bi (h.own q c ho) (by cases c<;>first|rfl|exact DU Y (hno _ _ _ _)))
  ·cases hp
 ·rename_i sv _ _ hx;split at hp
  ·rename_i fr p' hff;obtain rfl:=D3 hp;have hrep:=bC h hx hff;show Rep w (Zf K V φ (fr||p'.flat)) _ p';cases hf:p'.flat with
   |true=>exact hrep.flat hf
   |false=>rw[Bool.or_false];exact hrep
  ·cases hp
 ·cases hp
theorem np (h:RelW K V U φ a w){us:List Value}{qs:List Nat}(hval: ∀(i q:Nat) (u:Value),qs[i]? =some q->us[i]? =some u->φ q=u): ∀(xs:List Operand) (ps:List (Bool×PV)),vj V us qs xs=some ps->L2 (λv (p:Bool×PV)=>Rep w (Zf K V φ p.1) v p.2) (xs.map a.eval) ps
 | [],ps,hp=>by simp only[vj,D6]at hp;subst hp;exact .nil
 |x::xs,ps,hp=>by
  simp only[vj]at hp;split at hp
  ·rename_i p l hx hl;obtain rfl:=D3 hp;exact .cons (xd h hval hx) (np h hval xs l hl)
  ·cases hp
end
theorem RelW.callX {K:Ctx}{sl:List (Nat×SV)}{ow:List (Nat×Option Own)}{nx:Nat}{φ:Nat->Value}{a:Act}{w w':World}{us gs:List Value}{cs ds:List Own}{cs' news:List Value->List Own}{rf:Bool}{res:List Value->List PV}{qs:List Nat}{gl:List Nat}{x:Ending}(hφ:RelW K (St.mk sl ow nx).f (· <nx) φ a w)
  (hul:us.length=cs.length) (hq:j5 (St.mk sl ow nx).f gl (us++gs) (cs++ds) qs) (hdup:dup qs=false) (hp:rC w (Zf K (St.mk sl ow nx).f φ) us gs cs' news rf res x w'):
  ∃rs ns:List Value,x= .returned (l8 rs)/\ns.length=(news ns).length/\us.length=(cs' ns).length/\RelW K (St.mk sl (ik nx (news ns) (ib (qs.take us.length) (cs' ns) (ij (qs.drop us.length) ow))) (nx+(news ns).length)).f (· <nx+(news ns).length) (bI φ nx ns) a w'/\
   L2 (Rep w' (Zf K (St.mk sl (ik nx (news ns) (ib (qs.take us.length) (cs' ns) (ij (qs.drop us.length) ow))) (nx+(news ns).length)).f (bI φ nx ns) rf)) rs (res ns):=by
 obtain⟨rs,ns,rfl,hos,htape,hout,hsize,hblk,hus,hns,hfresh,hap,hres⟩:=hp;obtain⟨⟨hl1,hl2⟩,hat⟩:=gW hq;have hval: ∀(i q:Nat) (u:Value),qs[i]? =some q->(us++gs)[i]? =some u->φ q=u:=by
  intro i q u h1 h2;obtain⟨u',c,c2,g,h3,_,_,_,_,h5⟩:=hat i q h1;rw[h2]at h3;cases h3;obtain⟨_,_,e⟩:=hφ.slot g _ h5;exact e
 have hinj:=fz qs hdup;have hownq: ∀q∈qs,∃c,(St.mk sl ow nx).f.own q=some c:=λq hq=>by
  obtain⟨i,hi⟩:=DH hq;obtain⟨_,_,c2,_,_,_,h,_⟩:=hat i q hi;exact⟨c2,h⟩
 have hoff: ∀b,(∀q∈qs,¬VB (φ q) b)->Off (us++gs) b:=by
  intro b hb u hu;obtain⟨i,hi⟩:=DH hu;have hil:i<qs.length:=(by have:=(D5.1 hi).1;omega);rw[<-hval i _ u (D1 hil) hi];exact hb _ (D8 hil)
 have hnl:=hns.length;have hkl:=hus.length;have hlen:us.length+gs.length=qs.length:=(by rw[DX]at hl1;omega);have hkq:(qs.take us.length).length=(cs' ns).length:=(by rw[Dx];omega);have htake: ∀(j q:Nat),(qs.take us.length)[j]? =some q->j<us.length/\qs[j]? =some q:=by
  intro j q h;have hj:j<(qs.take us.length).length:=(D5.1 h).1;rw[Ez (by omega)]at h;exact⟨by omega,h⟩
 let φ':Nat->Value:=bI φ nx ns;have hφ': ∀i,i<nx->φ' i=φ i:=λi hi=>(by simp only[φ',bI];rw[D2 (by omega)]);have hφn: ∀(j:Nat) u,ns[j]? =some u->φ' (nx+j)=u:=by
  intro j u hu;have hj:=(D5.1 hu).1;simp only[φ',bI];rw[D4 (by omega),D0,ET,hu];rfl
 let E':St:=⟨sl,ik nx (news ns) (ib (qs.take us.length) (cs' ns) (ij (qs.drop us.length) ow)),nx+(news ns).length⟩;have hcase: ∀i c,E'.f.own i=some c->(∃j:Nat,i=nx+j/\(news ns)[j]? =some c)∨(∃j:Nat,j<us.length/\qs[j]? =some i/\(cs' ns)[j]? =some c)∨(i∉qs/\¬(nx<=i/\i<nx+(news ns).length)/\(St.mk sl ow nx).f.own i=some c):=by
  intro i c h;rcases lk_newOwX (news ns) nx i c h with h1|⟨h1,h2⟩;·exact .inl h1
  ·rcases lk_setOwX (qs.take us.length) (cs' ns) i c hkq h2 with ⟨j,h3,h4⟩|⟨h3,h4⟩
   ·obtain⟨h5,h6⟩:=htake j i h3;exact .inr (.inl ⟨j,h5,h6,h4⟩)
   ·obtain⟨h5,h6⟩:=qN (qs.drop us.length) i c h4;refine .inr (.inr ⟨λhm=> ?_,h1,h6⟩);rw[<-FP us.length qs]at hm;exact(DT.1 hm).elim h3 h5
 have hqlt: ∀q∈qs,q<nx:=λq hqm=>(by obtain⟨c,hc⟩:=hownq q hqm;exact hφ.inU q c hc);have hC: ∀i,i∉qs->¬(nx<=i/\i<nx+(news ns).length)->¬(i∈qs∨(nx<=i/\i<nx+(news ns).length)):=λi h1 h2 h3=>h3.elim h1 h2;have husl: ∀{j:Nat} {i:Nat},j<us.length->qs[j]? =some i->∃u,us[j]? =some u/\φ i=u/\u∈us:=by
  intro j i hj hi;have hu:=D1 hj;exact⟨us[j],hu,hval j i _ hi (by rw[E9 hj];exact hu),D8 hj⟩
 have hZp: ∀f b,Zx w (Zf K (St.mk sl ow nx).f φ) (us++ns) f b->Zf K E'.f φ' f b:=by
  rintro f b ⟨hb1,hb2⟩;refine⟨⟨?_,λi c hi hv=> ?_⟩,λe=> ?_⟩
  ·rcases hb1 with hb1|hb1;·exact hb1.1.1
   ·exact .inl (Du hφ.kept.size hb1)
  ·rcases hcase i c hi with ⟨j,rfl,h1⟩|⟨j,hj,h1,h2⟩|⟨h1,h2,h3⟩
   ·have hj:j<ns.length:=(by have:=(D5.1 h1).1;omega);have hu:=D1 hj;rw[hφn j _ hu]at hv;exact hb2 _ (Dq _ (D8 hj)) hv
   ·obtain⟨u,_,e,hm⟩:=husl hj h1;rw[hφ' i (hqlt i (D7 h1)),e]at hv;exact hb2 _ (Do _ hm) hv
   ·rw[hφ' i (hφ.inU i c h3)]at hv;rcases hb1 with hb1|hb1;·exact hb1.1.2 i c h3 hv
    ·have:=(hφ.own i c h3).lt hv;omega
  ·rcases hb1 with hb1|hb1;·exact hb1.2 e
   ·exact K.hF _ (Du hφ.kept.size hb1)
 have hrel:RelW K E'.f (· <nx+(news ns).length) φ' a w':=by
  refine hφ.step (λb=> ∃q∈qs,VB (φ q) b) (λi=>i∈qs∨(nx<=i/\i<nx+(news ns).length)) Y (λi (hi:i<nx)=>by show i<nx+(news ns).length;omega) (λi hi=>hφ' i hi) hos htape hout hsize ?_ ?_ ?_ ?_ ?_
  ·intro b hb hne;exact hblk b hb (hoff b λq hqm e=>hne ⟨q,hqm,e⟩)
  ·rintro b _ ⟨q,hqm,e⟩;obtain⟨c,hc⟩:=hownq q hqm;exact⟨q,c,hc,e,.inl hqm⟩
  ·intro i c hi hne;rcases hcase i c hi with ⟨j,rfl,h1⟩|⟨j,hj,h1,h2⟩|⟨h1,h2,h3⟩
   ·have:=(D5.1 h1).1;exact DU (.inr ⟨by omega,by omega⟩) hne
   ·exact DU (.inl (D7 h1)) hne
   ·exact h3
  ·intro i c hi hie;rcases hcase i c hi with ⟨j,rfl,h1⟩|⟨j,hj,h1,h2⟩|⟨h1,h2,h3⟩
   ·have hj:=(D5.1 h1).1;obtain⟨u,hu,hr⟩:=hns.get h1;rw[hφn j u hu];refine⟨by show nx+j<nx+(news ns).length;omega,hr.mono (λ_ _=>rfl) λf b hb _=>⟨hZp f b hb,rfl⟩,λg hg=> ?_⟩;rcases hfresh u g (D7 hu) hg with h|⟨v,hv,hvg⟩;·exact .inl h
    ·obtain⟨i,hi⟩:=DH (Dq us hv);have hil:i<qs.length:=(by have:=(D5.1 hi).1;omega);obtain⟨c1,hc1⟩:=hownq _ (D8 hil);exact .inr ⟨qs[i],c1,hc1,by rw[hval i _ v (D1 hil) hi];exact hvg,.inl (D8 hil)⟩
   ·obtain⟨u,hu,e,_⟩:=husl hj h1;obtain⟨u2,hu2,hr⟩:=hus.get h2;rw[hu]at hu2;cases hu2;have hlt2:=hqlt i (D7 h1);rw[hφ' i hlt2];refine⟨by show i<nx+(news ns).length;omega,by rw[e];exact hr.mono (λ_ _=>rfl) λf b hb _=>⟨hZp f b hb,rfl⟩,λg hg=> ?_⟩;obtain⟨c1,hc1⟩:=hownq i (D7 h1);exact .inr ⟨i,c1,hc1,hg,.inl (D7 h1)⟩
   ·exact DU hie (hC i h1 h2)
  ·intro i i' c c' g hi hi' hie hie' hv hv';have key: ∀i c,E'.f.own i=some c->(i∈qs∨(nx<=i/\i<nx+(news ns).length))->VB (φ' i) g->∃(j:Nat) (u:Value),(us++ns)[j]? =some u/\VB u g/\((j<us.length/\qs[j]? =some i)∨(us.length<=j/\i=nx+(j-us.length))):=by
    intro i c hi hie hv;rcases hcase i c hi with ⟨j,rfl,h1⟩|⟨j,hj,h1,h2⟩|⟨h1,h2,h3⟩
    ·have hj:j<ns.length:=(by have:=(D5.1 h1).1;omega);have hu:=D1 hj;rw[hφn j _ hu]at hv;exact⟨us.length+j,_,by rw[Dw (by omega)];simp,hv,.inr ⟨by omega,by congr 1;omega⟩⟩
    ·obtain⟨u,hu,e,_⟩:=husl hj h1;rw[hφ' i (hqlt i (D7 h1)),e]at hv;exact⟨j,u,by rw[E9 hj];exact hu,hv,.inl ⟨hj,h1⟩⟩
    ·exact DU hie (hC i h1 h2)
   obtain⟨j,u,h1,h2,h3⟩:=key i c hi hie hv;obtain⟨j',u',h4,h5,h6⟩:=key i' c' hi' hie' hv';have e:=hap j j' u u' g h1 h4 h2 h5;subst e;rcases h3 with ⟨h3,h7⟩|⟨h3,h7⟩<;>rcases h6 with ⟨h6,h8⟩|⟨h6,h8⟩;·rw[h7]at h8;exact D3 h8
   ·omega
   ·omega
   ·omega
 exact⟨rs,ns,rfl,hnl,hkl,hrel,Rep.monoL (λb hb _=>⟨hZp rf b hb,rfl⟩) hres⟩
theorem J.cx {K:Ctx}{ops:Array Oper}{o:Oper}{rest:List Oper}{sl:List (Nat×SV)}{ow:List (Nat×Option Own)}{nx:Nat}{R:St->Prop}{d:Nat}{x:Operand}{args:Array Operand}{tys:Array TypeId}{f:FuncId}{fx rf:Bool}{first caps:List PV}{ps ps':List (Bool×PV)}{us gs:List Value}{cs ds:List Own}{cs' news:List Value->List Own}{res:List Value->List PV}(qs gl hs:List Nat)
  (hspec:SpecX K.P f us gs cs ds ps' cs' news rf res) (hq:j5 (St.mk sl ow nx).f gl (us++gs) (cs++ds) qs)
  (k: ∀ns:List Value,ns.length=(news ns).length->J K ops false rest ⟨(d,RV.one rf nx ((res ns).map .val))::ng nx hs ns sl,ik nx (news ns) (ib (qs.take us.length) (cs' ns) (ij (qs.drop us.length) ow)),nx+(news ns).length⟩ R)
  (ho:o.op= .call { callee:= .value x,args:=args,argTypes:=tys }:=by exact Y) (hg:wants ops (St.mk sl ow nx).f o=some true:=by exact Y) (hd:o.dst=some d:=by exact Y) (hlt:K.can d=true:=by exact Y) (hx:(St.mk sl ow nx).f.get x=some (.val fx (.fn (.func f) first caps)):=by exact Y)
  (hul:us.length=cs.length:=by exact Y) (hdup:dup qs=false:=by exact Y)
  (hps:vj (St.mk sl ow nx).f (us++gs) qs args.toList=some ps:=by exact Y) (hpe:(zp fx first++ps++zp fx caps).map (·.2)=ps'.map (·.2):=by exact Y) (hle:leX (zp fx first++ps++zp fx caps) ps'=true:=by exact Y):J K ops false (o::rest) ⟨sl,ow,nx⟩ R:=by
 refine⟨TO.mk λa w Q hr hQ=> ?_⟩;obtain⟨φ,hφ⟩:=hr;unfold wpList;rw[D4 (aE hφ hg)];refine .inl ?_;obtain⟨hrf,_⟩:=ae hφ hx;generalize hvx:a.eval x=vx at hrf;cases hrf with
 |fn _ vs vcs _ _ hf hc=>
 obtain⟨fn,hfn,hbody,hname⟩:=hspec.isFn;have hrun:(execOp a.eval o).run K.P w= .ok (.enter f (vs++args.toList.map a.eval++vcs).toArray) w:=by
  have hb:fn.body.isNone=false:=(by cases hfb:fn.body<;>simp_all);simp only[execOp,ho,resolve,hvx,Deferred.ofValue,DK,Dr,DA,invoke,callFunc,run_program,hfn,hname,hb,EF,if_false];congr 2;apply Array.ext';simp
 unfold Oper.wp;rw[hrun];obtain⟨⟨hl1,hl2⟩,hat⟩:=gW hq;have hval: ∀(i q:Nat) (u:Value),qs[i]? =some q->(us++gs)[i]? =some u->φ q=u:=by
  intro i q u h1 h2;obtain⟨u',c,c2,g,h3,_,_,_,_,h5⟩:=hat i q h1;rw[h2]at h3;cases h3;obtain⟨_,_,e⟩:=hφ.slot g _ h5;exact e
 have hinj:=fz qs hdup;have hget: ∀(i:Nat) u,(us++gs)[i]? =some u->∃q,qs[i]? =some q/\φ q=u/\∃c,(St.mk sl ow nx).f.own q=some c:=λi u hu=>by
  have hil:i<qs.length:=(by have:=(D5.1 hu).1;omega);obtain⟨_,_,c2,_,_,_,h,_⟩:=hat i _ (D1 hil);exact⟨qs[i],D1 hil,hval i _ u (D1 hil) hu,c2,h⟩
 have tf: ∀b,Zf K (St.mk sl ow nx).f φ true b->Zf K (St.mk sl ow nx).f φ false b:=λb hb=>⟨hb.1,λe=>by cases e⟩;have hown: ∀(i:Nat) u c,(us++gs)[i]? =some u->(cs++ds)[i]? =some c->ar w (Zf K (St.mk sl ow nx).f φ) u c:=by
  intro i u c h1 h2;have hil:i<qs.length:=(by have:=(D5.1 h1).1;omega);obtain⟨u',c',c2,g,h3,h4,h5,h6,h7,_⟩:=hat i _ (D1 hil);rw[h1]at h3;cases h3;rw[h2]at h4;cases h4;have ho2:=hφ.own _ _ h5;rw[hval i _ u (D1 hil) h1]at ho2;exact mh ho2 h6 h7 tf λ_ hb=>hb
 have hgl:gs.length=ds.length:=(by rw[DX,DX]at hl1;omega);have hpre:PreX w (Zf K (St.mk sl ow nx).f φ) us gs cs ds ps' (vs++args.toList.map a.eval++vcs):=by
  refine⟨tf,L2.ofGet hul λi u c h1 h2=> ?_,L2.ofGet hgl λi u c h1 h2=> ?_,?_,?_,?_⟩
  ·have e1:=(D5.1 h1).1;exact hown i u c (by rw[E9 e1];exact h1) (by rw[E9 (by omega)];exact h2)
  ·exact hown (us.length+i) u c (by rw[Dw (by omega),ET];exact h1) (by rw[Dw (by omega),hul,ET];exact h2)
  ·intro i j u v g h1 h2 hg1 hg2;obtain⟨q,h3,rfl,c,h5⟩:=hget i u h1;obtain⟨q',h4,rfl,c',h6⟩:=hget j v h2;have:=hφ.dis _ _ c c' g h5 h6 hg1 hg2;exact hinj i j _ h3 (by rw[this];exact h4)
  ·intro b hb u hu;obtain⟨i,hi⟩:=DH hu;obtain⟨q,_,rfl,c,hc⟩:=hget i u hi;exact hb.1.2 q c hc
  ·exact qP tf (((kE hf).append (np hφ hval args.toList ps hps)).append (kE hc)) hpe hle
 refine(hspec.out w _ _ hpre).mono ?_;intro x w' hpost;obtain⟨rs,ns,rfl,hnl,hkl,hrel,hres⟩:=hφ.callX hul hq hdup hpost;let E':St:=⟨sl,ik nx (news ns) (ib (qs.take us.length) (cs' ns) (ij (qs.drop us.length) ow)),nx+(news ns).length⟩;have heach:L2 (RV1 w' (Zf K E'.f (bI φ nx ns) rf)) rs ((res ns).map .val):=by
  clear k hQ hspec;generalize res ns=rl at*;clear hpost
  induction hres with
  |nil=>exact .nil
  |cons h1 _ ih=>exact .cons h1 ih
 have hφn: ∀(j:Nat) u,ns[j]? =some u->bI φ nx ns (nx+j)=u:=by
  intro j u hu;have hj:=(D5.1 hu).1;simp only[bI];rw[D4 (by omega),D0,ET,hu];rfl
 have hdst: ∀(v:Value) (sv:SV),aU w' (Zf K E'.f (bI φ nx ns)) (bI φ nx ns) v sv->sv.inU (· <nx+(news ns).length)->Rel K ⟨(d,sv)::ng nx hs ns sl,E'.ow,nx+(news ns).length⟩ (a.put o.dst v) w':=by
  intro v sv h1 h2;refine⟨bI φ nx ns,?_⟩;have hput:RelW K (St.mk ((d,sv)::sl) E'.ow (nx+(news ns).length)).f (· <nx+(news ns).length) (bI φ nx ns) (a.put o.dst v) w':=by
   rw[hd];exact hrel.put hlt h1 h2 Y slot_put
  refine⟨hput.df,hput.sz,hput.old,hput.kept,hput.own,hput.mine,hput.inU,hput.dis,?_,?_⟩
  ·intro s sv' hs';rcases slot_put s sv' hs' with ⟨rfl,rfl⟩|⟨hne,h3⟩;·exact hput.slot s sv' (by show lk ((s,sv')::sl) s=_;rw[ai,D4 Y])
   ·rcases lk_eqsOn hs ns nx s sv' h3 with ⟨j,u,h4,h5,rfl⟩|h4
    ·refine⟨_,rfl,?_⟩;exact hφn j u h5
    ·exact hput.slot s sv' (by show lk ((d,sv)::sl) s=_;rw[ai,D2 (Ne.symm hne)];exact h4)
  ·intro s sv' hs';rcases slot_put s sv' hs' with ⟨rfl,rfl⟩|⟨hne,h3⟩;·exact h2
   ·rcases lk_eqsOn hs ns nx s sv' h3 with ⟨j,u,h4,h5,rfl⟩|h4
    ·have:=(D5.1 h5).1;show nx+j<nx+(news ns).length;omega
    ·exact hput.sin s sv' (by show lk ((d,sv)::sl) s=_;rw[ai,D2 (Ne.symm hne)];exact h4)
 obtain⟨h1,h2⟩:=dw (U:=(· <nx+(news ns).length)) (Z:=Zf K E'.f (bI φ nx ns)) (φ:=bI φ nx ns) ((res ns).map .val) rs nx heach (λi v hi=>by rw[fD]at hi;simp at hi) (λi hi=>by rw[fE]at hi;simp at hi);obtain⟨h3,h4⟩:=eM h1 h2;exact((k ns hnl).out).out _ _ Q (hdst _ _ h3 h4) hQ
section
variable {K:Ctx}{sl:List (Nat×SV)}{ow:List (Nat×Option Own)}{nx:Nat}{e:TypeId}{sz:Nat}{fr:Bool}{rows:List (List PV)}
theorem T.known {c:Code}{Q:Exit->St->Prop}{u:Value}(g q:Nat)(hg:lk sl g=some (.eq u q))(hq:(St.mk sl ow nx).f.own q=some (.sl e sz fr rows))(hne:rows≠[])
  (k: ∀b cap,u= .slice (some ⟨b,0,none⟩) rows.length cap->rows.length<=cap->0<cap->T K c ⟨sl,ow,nx⟩ Q):T K c ⟨sl,ow,nx⟩ Q:=by
 refine⟨λa w hr=> ?_⟩;obtain⟨φ,hφ⟩:=hr;obtain⟨xs,⟨_,h⟩,_⟩:=hφ.own q _ hq;obtain⟨_,_,e1⟩:=hφ.slot g _ hg;have e1:φ q=u:=e1;rcases h with ⟨_,h0⟩|⟨b,cap,cur,hv,_,_,hcap,_⟩;·exact DU (List.length_eq_zero_iff.1 h0) hne
 ·have:0<rows.length:=GK.2 hne;exact(k b cap (e1.symm.trans hv) hcap (by omega)).out a w ⟨φ,hφ⟩
theorem T.knownp {c:Code}{Q:Exit->St->Prop}{u:Value}{row:List PV}(g q:Nat)(hg:lk sl g=some (.eq u q))(hq:(St.mk sl ow nx).f.own q=some (.box fr row))
  (k: ∀b,u= .pointer (some ⟨b,0,none⟩)->T K c ⟨sl,ow,nx⟩ Q):T K c ⟨sl,ow,nx⟩ Q:=by
 refine⟨λa w hr=> ?_⟩;obtain⟨φ,hφ⟩:=hr;obtain⟨b,_,_,hv,_⟩:=hφ.own q _ hq;obtain⟨_,_,e1⟩:=hφ.slot g _ hg;exact(k b (Eq.trans (Eq.symm e1) hv)).out a w ⟨φ,hφ⟩
theorem Rel.ownN (g:Nat)(e:TypeId)(sz:Nat)(a:Act)(w:World)(h:Rel K ⟨sl,ow,nx⟩ a w):
  Rel K ⟨(g,.eq (.slice none 0 0) nx)::sl,(nx,some (.sl e sz true []))::ow,nx+1⟩ a w:=by
 obtain⟨φ,hφ⟩:=h;have hadd:=hφ.add (Below.refl _ _) nx [.sl e sz true []] [.slice none 0 0] (λi h1 _ h3=>DU h3 (HH.2 h1)) Y (λi c v hc hv=>by
  cases i with
  |zero=>
   simp at hc hv;subst hc hv;exact⟨⟨[],World.ownsRow_nil w 0 e sz,.nil,by simp,by simp⟩,λg hg=>by simp[VB,ax]at hg⟩
  |succ i=>simp at hc) (λi j v v' g hi hj hv _=>by cases i<;>cases j<;>simp_all)
 have hU:em (· <nx) nx [.sl e sz true []]=(· <nx+1):=(by funext i;simp only[em,eq_iff_iff,EW];omega);have h2:RelW K (St.mk sl ((nx,some (.sl e sz true []))::ow) (nx+1)).f (· <nx+1) (bI φ nx [.slice none 0 0]) a w:=by
  have:=sg sl ow nx (nx+1) [.sl e sz true []];simp only[cw]at this;rw[this,<-hU];exact hadd
 obtain⟨v,hv⟩:=eI h2 (g:=g) Y;exact⟨_,h2.reslot (sv:= .eq (.slice none 0 0) nx) hv (by simp[aU,ay,bI]) (by show nx<nx+1;omega) Y slot_put⟩
theorem n4: ∀(l:List (List PV)) (i:Nat),(∀r∈l,r.length=sz)->i<=l.length->(l.take i).flatten=l.flatten.take (i*sz)
 | [],i,_,hi=>by simp
 |r::l,0,_,_=>by simp
 |r::l,i+1,h1,hi=>by
  have hr:=h1 r (.head _);have e1:(i+1)*sz=r.length+i*sz:=(by rw[hr,Fo,FC]);rw[Gj,EP,EP,n4 l i (λr h=>h1 r (.tail _ h)) (by simpa using hi),e1,List.take_length_add_append]
theorem Rel.recut {b n cap:Nat}(g q i:Nat)(hg:lk sl g=some (.eq (.slice (some ⟨b,0,none⟩) n cap) q))(hq:(St.mk sl ow nx).f.own q=some (.sl e sz fr rows))(hi:i<=rows.length)(a:Act)(w:World)(h:Rel K ⟨sl,ow,nx⟩ a w):
  Rel K ⟨(g,.eq (.slice (some ⟨b,0,none⟩) i cap) nx)::sl,(nx,some (.sl e sz fr (rows.take i)))::(q,none)::ow,nx+1⟩ a w:=by
 obtain⟨φ,hφ⟩:=h;obtain⟨_,_,e1⟩:=hφ.slot g _ hg;have e1:φ q= .slice (some ⟨b,0,none⟩) n cap:=e1;obtain⟨xs,hrow,hx,h1,h2⟩:=hφ.own q _ hq;rw[e1]at hrow;obtain⟨hln,hrow⟩:=hrow;rcases hrow with ⟨hv,_⟩|⟨b',cap',cur,hv,hg0,hb,hcap,hmax,hsz,htk⟩;·cases hv
 cases hv;have hxl:=hx.length;have hfl:(rows.take i).flatten=rows.flatten.take (i*sz):=n4 rows i h1 hi;have hlt:(rows.take i).length=i:=(by rw[Dx,ES hi]);have hcut: ∀Z,L2 (Rep w Z) xs rows.flatten->dy w Z (.slice (some ⟨b,0,none⟩) i cap) e sz (rows.take i):=by
  intro Z hx;refine⟨xs.take (i*sz),?_,?_,λr hr=>h1 r (Eg hr),λr hr=>h2 r (Eg hr)⟩
  ·rw[hlt];refine⟨by rw[Dx,hln,ES (EA _ hi)],.inr ⟨b,cap,cur,rfl,hg0,hb,by omega,hmax,hsz,?_⟩⟩;rw[<-htk,G9,ES (EA _ hi)]
  ·rw[hfl];refine L2.ofGet (by rw[Dx,Dx,hxl]) λj u c hu hc=> ?_;have hj:j<i*sz:=(by have:=(D5.1 hc).1;rw[Dx]at this;omega);rw[Ez hj]at hu hc;obtain⟨u',hu',hr⟩:=hx.get hc;rw[hu]at hu';cases hu';exact hr
 have hqx:q<nx:=hφ.inU q _ hq;let φ':Nat->Value:=λj=>if j=nx then .slice (some ⟨b,0,none⟩) i cap else φ j
 have hvb: ∀g',VB (.slice (some ⟨b,0,none⟩) i cap) g'->VB (φ q) g':=λg' h=>(by rw[e1];simpa[VB,ax]using h);have hrel:RelW K ⟨(St.mk sl ow nx).f.slot,aw (St.mk sl ow nx).f.own (some q) nx (.sl e sz fr (rows.take i))⟩ (λj=>j<nx∨j=nx) φ' a w:=by
  refine hφ.step (λb=>VB (φ q) b) (λj=>j=nx∨j=q) Y (λ_ hu=> .inl hu) (λj hj=>by simp only[φ',D2 (Gp hj)]) rfl rfl rfl (DL _) (λb hb hne=>rfl) ?_ ?_ ?_ ?_
  ·intro b _ hb;exact⟨q,_,hq,hb,.inr Y⟩
  ·intro j c hj hc;simp only[aw]at hj;rw[D2 (λe=>hc (.inl e)),D2 (λe=>hc (.inr (D3 e).symm))]at hj;exact hj
  ·intro j c hj hc;have hin:j=nx:=iX hj hc;subst hin;simp only[aw,D4,D6]at hj;subst hj;refine⟨.inr Y,?_,λg' hg'=> ?_⟩
   ·simp only[φ',D4];have:=hcut _ hx;refine ar.mono (Z:=Zf K (St.mk sl ow j).f φ) (c:= .sl e sz fr (rows.take i)) this (λ_ _=>rfl) λf b' hb' _=>⟨?_,rfl⟩;refine⟨⟨hb'.1.1,λo c ho hv=> ?_⟩,hb'.2⟩;by_cases eo:o=j
    ·subst eo;simp only[φ',D4]at hv;exact hb'.1.2 q _ hq (hvb _ hv)
    ·simp only[aw]at ho;rw[D2 eo]at ho;by_cases eq:q=o;·rw[D4 (by rw[eq])]at ho;cases ho
     ·rw[D2 (λe=>eq (D3 e))]at ho;simp only[φ',D2 eo]at hv;exact hb'.1.2 o c ho hv
   ·simp only[φ',D4]at hg';exact .inr ⟨q,_,hq,hvb g' hg',.inr Y⟩
  ·intro j j' c c' g hj hj' hc hc' _ _;rw[iX hj hc,iX hj' hc']
 have hU:(λj=>j<nx∨j=nx)=(· <nx+1):=(by funext j;simp only[eq_iff_iff];omega);rw[hU]at hrel;obtain⟨v,hv⟩:=eI hφ (g:=g) Y;refine⟨φ',hrel.reslot (sv:= .eq (.slice (some ⟨b,0,none⟩) i cap) nx) hv (by simp[aU,ay,φ']) (by show nx<nx+1;omega) ?_ slot_put⟩;funext j;simp only[aw,St.f,ai];by_cases e1:nx=j;·subst e1;simp
 ·rw[D2 e1,D2 (Ne.symm e1)];by_cases e2:q=j;·subst e2;simp
  ·rw[D2 e2,D2 (λe=>e2 (D3 e))]
end
section
variable {K:Ctx}{ops:Array Oper}{dr:Bool}{o:Oper}{rest:List Oper}{sl:List (Nat×SV)}{ow:List (Nat×Option Own)}{nx:Nat}{R:St->Prop}{d:Nat}
theorem J.rs {t e:TypeId}{x y:Operand}{f1 f2:Bool}{b n cap:Nat}{ky:IntKind}{h:Int}{inf:TypeInfo}(i:Nat)(hh:h=(i:Nat))(hi:i<=cap)(hc:0<cap)(ho:o.op= .slice t x none (some y) none)(hg:wants ops (St.mk sl ow nx).f o=some true)(hd:o.dst=some d)(hlt:K.can d=true)
  (hx:(St.mk sl ow nx).f.get x=some (.val f1 (.raw (.slice (some ⟨b,0,none⟩) n cap)))) (hy:(St.mk sl ow nx).f.get y=some (.val f2 (.int ky h)))
  (hu:K.P.underlying t=some (.slice e)) (hinf:K.P.info? e=some inf) (k:J K ops dr rest ⟨(d,.val true (.raw (.slice (some ⟨b,0,none⟩) i cap)))::sl,ow,nx⟩ R):J K ops dr (o::rest) ⟨sl,ow,nx⟩ R:=by
 subst hh;refine .does hg hd hlt (.gen (xs:=[x,y]) (l:=[.raw (.slice (some ⟨b,0,none⟩) n cap),.int ky i]) ?_ ?_ ?_) k;·rw[ho];simp[Op.operands]
 ·simp[du,hx,hy,SV.ff]
 ·intro a w hr;cases hr with
  |cons h1 hr=>
  cases hr with
  |cons h2 _=>
  generalize hv1:a.eval x=v1 at h1;generalize hv2:a.eval y=v2 at h2;cases h1;cases h2;refine⟨.slice (some ⟨b,0,none⟩) i cap,?_,λ_=> .raw _ Y⟩;have hb2:(Instr.sliceBounds true n cap none (some (.int ky i)) none).run K.P w= .ok (0,i,cap) w:=by
   have:(0:Int)<=(i:Int)/\(i:Int)<=(cap:Int):=(by omega);simp only[Instr.sliceBounds,DK,Dr,DA];rw[run_sliceBound w ky i cap _ this.1 this.2];rfl
  simp only[execOp,ho,hv1,hv2,DK,Instr.sliceAt,Instr.slice,run_underlying hu,DA,FN,EG,hb2,aM hinf];rw[D2 (show¬cap=0 by omega)];simp[bD]
theorem J.bzr {t:TypeId}{fs:Array Field}{inf:TypeInfo}{cells:Array Value}{pl:List (Nat×Nat)}(ho:o.op= .build t #[])(hg:wants ops (St.mk sl ow nx).f o=some true)(hd:o.dst=some d)(hlt:K.can d=true)
  (hu:K.P.underlying t=some (.struct fs)) (hi:K.P.info? t=some inf) (hz:inf.zero=some (.agg cells)) (hpl:k8 K.P fs=some pl) (h1:(cells.toList.all (·.oneCell'))=true)
  (k:J K ops dr rest ⟨(d,.val true (.agg (cells.toList.map .raw)))::sl,ow,nx⟩ R):J K ops dr (o::rest) ⟨sl,ow,nx⟩ R:=by
 refine .does hg hd hlt (.gen (xs:=[]) (l:=[]) (by simp) rfl ?_) k;intro a w _;refine⟨.agg cells,?_,λZ=> ?_⟩
 ·have hv:(Instr.build t #[]).run K.P w= .ok (.agg cells) w:=by
   refine run_build w t _ cells ?_;simp only[Program.built,hi,hu,hz];have:fs.toList.mapM (λf=>(K.P.info? f.type).map λi=>(f.offset,i.size))=some pl:=hpl;simp only[this];simp[Instr.fill,Value.cells]
  simp[execOp,ho,hv]
 ·have:(Value.agg cells)= .agg cells.toList.toArray:=(by simp);rw[this];refine .agg _ _ ?_ (λp hp=>by obtain⟨v,_,rfl⟩:=DF.1 hp;rfl);have h1:=DI.1 h1;generalize cells.toList=l at h1;clear this
  induction l with
  |nil=>exact .nil
  |cons v l ih=>exact .cons (.raw _ (h1 v (.head _))) (ih λv h=>h1 v (.tail _ h))
end
section
variable {P:Program}{ops:Array Oper}{Q:Exit->Act->World->Prop}
theorem x9 {o:Oper}{a:Act}{next X:Act->World->Prop}{r:Result Next}(h:o.upon P a next (Exit.then X Q) r):o.upon P a next Q r:=by
 cases r with
 |ok n w'=>
  cases n with
  |enter f args=>
   refine Calls.mono h λe w' he=> ?_;cases e<;>exact he
  |_=>exact h
 |halt e w'=>cases e<;>exact h
theorem j7 {m:List Oper}: ∀(l:List Oper) (a:Act) (w:World),wpList P ops (Exit.then (wpList P ops Q m) Q) l a w->wpList P ops Q (l++m) a w
 | [],a,w,h=>h
 |o::l,a,w,h=>by
  simp only[wpList,Ei]at h⊢;split at h
  ·rename_i hw;rw[D4 hw];rcases h with h|⟨h1,h2⟩;·exact .inl (Oper.wp_mono (λa w hh=>j7 l a w hh) (x9 h))
   ·exact .inr ⟨h1,h2⟩
  ·rename_i hw;rw[D2 hw];exact j7 l _ _ h
end
def Ctx.dfr (K:Ctx)(d:Deferred):Ctx:= { K with df:=d::K.df }
theorem RelW.dfr {K:Ctx}{V:EnvF}{U:Nat->Prop}{φ:Nat->Value}{a:Act}{w:World}(d:Deferred)(h:RelW K V U φ a w):RelW (K.dfr d) V U φ { a with defers:=d::a.defers } w:=
 ⟨by show d::a.defers=d::K.df;rw[h.df],h.sz,h.old,h.kept,h.own,h.mine,h.inU,h.dis,h.slot,h.sin⟩
theorem RelW.undfr {K:Ctx}{V:EnvF}{U:Nat->Prop}{φ:Nat->Value}{a:Act}{w:World}{d:Deferred}(h:RelW (K.dfr d) V U φ a w):RelW K V U φ { a with defers:=K.df } w:=
 ⟨rfl,h.sz,h.old,h.kept,h.own,h.mine,h.inU,h.dis,h.slot,h.sin⟩
structure SpecXD (P:Program)(f:FuncId)(us gs:List Value)(cs ds:List Own)(args:List (Bool×PV))(cs':List Value->List Own)(news:List Value->List Own)(rf:Bool)(res:List Value->List PV):Prop extends SpecX P f us gs cs ds args cs' news rf res where
 outD: ∀(w:World) (Z:Bool->Nat->Prop) (vs:List Value) (u:FrameMode),PreX w Z us gs cs ds args vs->CallsD P f vs.toArray u w λe u' w'=>u'=u/\rC w Z us gs cs' news rf res e w'
theorem SpecXD.body {P:Program} {f:FuncId} {fn:Func} {c:Code} {us gs:List Value} {cs ds:List Own} {cs' news:List Value->List Own} {args:List (Bool×PV)} {rf:Bool} {res:List Value->List PV} (gl hs:List Nat) (hf:P.funcs[f]? =some fn) (hb:fn.body=some c) (hn:(fn.name== "runtime.NumGoroutine")=false) (hl:Nat.ble args.length fn.ntmps=true)
  (h: ∀w0 Z,T (Ctx.ofX P w0 us gs Z fn.ntmps) c (na gl us gs cs ds args) (pU P fn us gl cs' news hs rf res)):SpecXD P f us gs cs ds args cs' news rf res:=
 ⟨SpecX.body gl hs hf hb hn hl h,λw Z vs u hp=>callsD_of_wp hf hb (pU.wp gl hs hl h hp)⟩
theorem RelW.preX {K:Ctx}{sl:List (Nat×SV)}{ow:List (Nat×Option Own)}{nx:Nat}{φ:Nat->Value}{a:Act}{w:World}{us gs:List Value}{cs ds:List Own}{ps:List (Bool×PV)}{vs:List Value}{gl qs:List Nat}(hφ:RelW K (St.mk sl ow nx).f (· <nx) φ a w)
  (hul:us.length=cs.length) (hq:j5 (St.mk sl ow nx).f gl (us++gs) (cs++ds) qs) (hdup:dup qs=false) (hvs:L2 (λv (p:Bool×PV)=>Rep w (Zf K (St.mk sl ow nx).f φ p.1) v p.2) vs ps):PreX w (Zf K (St.mk sl ow nx).f φ) us gs cs ds ps vs:=by
 obtain⟨⟨hl1,hl2⟩,hat⟩:=gW hq;have hval: ∀(i q:Nat) (u:Value),qs[i]? =some q->(us++gs)[i]? =some u->φ q=u:=by
  intro i q u h1 h2;obtain⟨u',c,c2,g,h3,_,_,_,_,h5⟩:=hat i q h1;rw[h2]at h3;cases h3;obtain⟨_,_,e⟩:=hφ.slot g _ h5;exact e
 have hinj:=fz qs hdup;have hget: ∀(i:Nat) u,(us++gs)[i]? =some u->∃q,qs[i]? =some q/\φ q=u/\∃c,(St.mk sl ow nx).f.own q=some c:=λi u hu=>by
  have hil:i<qs.length:=(by have:=(D5.1 hu).1;omega);obtain⟨_,_,c2,_,_,_,h,_⟩:=hat i _ (D1 hil);exact⟨qs[i],D1 hil,hval i _ u (D1 hil) hu,c2,h⟩
 have tf: ∀b,Zf K (St.mk sl ow nx).f φ true b->Zf K (St.mk sl ow nx).f φ false b:=λb hb=>⟨hb.1,λe=>by cases e⟩;have hown: ∀(i:Nat) u c,(us++gs)[i]? =some u->(cs++ds)[i]? =some c->ar w (Zf K (St.mk sl ow nx).f φ) u c:=by
  intro i u c h1 h2;have hil:i<qs.length:=(by have:=(D5.1 h1).1;omega);obtain⟨u',c',c2,g,h3,h4,h5,h6,h7,_⟩:=hat i _ (D1 hil);rw[h1]at h3;cases h3;rw[h2]at h4;cases h4;have ho2:=hφ.own _ _ h5;rw[hval i _ u (D1 hil) h1]at ho2;exact mh ho2 h6 h7 tf λ_ hb=>hb
 have hgl:gs.length=ds.length:=(by rw[DX,DX]at hl1;omega);refine⟨tf,L2.ofGet hul λi u c h1 h2=> ?_,L2.ofGet hgl λi u c h1 h2=> ?_,?_,?_,hvs⟩
 ·have e1:=(D5.1 h1).1;exact hown i u c (by rw[E9 e1];exact h1) (by rw[E9 (by omega)];exact h2)
 ·exact hown (us.length+i) u c (by rw[Dw (by omega),ET];exact h1) (by rw[Dw (by omega),hul,ET];exact h2)
 ·intro i j u v g h1 h2 hg1 hg2;obtain⟨q,h3,rfl,c,h5⟩:=hget i u h1;obtain⟨q',h4,rfl,c',h6⟩:=hget j v h2;have:=hφ.dis _ _ c c' g h5 h6 hg1 hg2;exact hinj i j _ h3 (by rw[this];exact h4)
 ·intro b hb u hu;obtain⟨i,hi⟩:=DH hu;obtain⟨q,_,rfl,c,hc⟩:=hget i u hi;exact hb.1.2 q c hc
def xg (E:St)(hs:List Nat)(ns:List Value)(us:List Value)(qs:List Nat)(cs' news:List Value->List Own):St:=⟨ng E.nx hs ns E.sl,ik E.nx (news ns) (ib (qs.take us.length) (cs' ns) (ij (qs.drop us.length) E.ow)),E.nx+(news ns).length⟩
theorem SpecX.bodyD {P:Program}{f fd:FuncId}{fn:Func}{c1 c2:Code}{id:Nat}{ops:Array Oper}{o:Oper}{x:Operand}{tys:Array TypeId}{us gs:List Value}{cs ds:List Own}{cs' news:List Value->List Own}{args:List (Bool×PV)}{σ τ:Type}{E1 E2:σ->St}{E3:τ->St}{v:Value}{fx:Bool}
  {us2:List Value} {gs2:τ->List Value} {cs2:τ->List Own} {ds2:τ->List Own} {cs2':τ->List Value->List Own} {news2:τ->List Value->List Own} {res2:List Value->List PV}
  (k:Nat) (gl hs gl2 hs2 qs2:List Nat) (hf:P.funcs[f]? =some fn) (hb:fn.body=some (c1.seq ((Code.region id ops false).seq c2))) (hn:(fn.name== "runtime.NumGoroutine")=false) (hl:Nat.ble args.length fn.ntmps=true) (hres:fn.results.toList=[])
  (hops:ops.toList.drop k=[o]) (ho:o.op= .defer { callee:= .value (.func fd),args:= #[x],argTypes:=tys }) (hgd:o.guard=none) (hod:o.dst=none)
  (h1: ∀w0 Z,T (Ctx.ofX P w0 us gs Z fn.ntmps) c1 (na gl us gs cs ds args) λe E=>e= .normal/\∃s,E=E1 s)
  (h2: ∀w0 Z s,J (Ctx.ofX P w0 us gs Z fn.ntmps) ops false (ops.toList.take k) (E1 s) λE=>E=E2 s)
  (hx: ∀s,(E2 s).f.get x=some (.val fx (.raw v)))
  (h3: ∀w0 Z s,T ((Ctx.ofX P w0 us gs Z fn.ntmps).dfr { target:= .fn (.func fd) #[],args:= #[v] }) c2 (E2 s) λe E=>(e= .normal∨e= .ret)/\∃t,E=E3 t)
  (hB: ∀t,SpecXD P fd us2 (gs2 t) (cs2 t) (ds2 t) [(true,.raw v)] (cs2' t) (news2 t) true res2) (hv:v.oneCell'=true) (hq: ∀t,j5 (E3 t).f gl2 (us2++gs2 t) (cs2 t++ds2 t) qs2) (hul: ∀t,us2.length=(cs2 t).length) (hdup:dup qs2=false)
  (hfin: ∀t ns,ns.length=(news2 t ns).length->pU P fn us gl cs' news hs true (λ_=>[]) .ret (xg (E3 t) hs2 ns us2 qs2 (cs2' t) (news2 t))):SpecX P f us gs cs ds args cs' news true (λ_=>[]):=by
 refine⟨⟨fn,hf,by rw[hb];rfl,hn⟩,λw Z vs hp=>calls_of_wp_defers hf hb ?_⟩;have hrel:=hp.rel (P:=P) (n:=fn.ntmps) gl (Dy hl);refine wp_seq (wp_mono ((h1 w Z).out _ w hrel) λe a1 w1 ⟨_,E,⟨he,s,hE⟩,hr1⟩=> ?_);subst he hE;show((Code.region id ops false).seq c2).wp P _ a1 w1;refine wp_seq (wp_region_list ?_);rw[<-FP k ops.toList,hops];refine j7 _ _ _ ((h2 w Z s).out.out a1 w1 _ hr1 λE a2 w2 hE hr2=> ?_);subst hE;show wpList P ops _ [o] a2 w2;obtain⟨φ,hφ⟩:=hr2;obtain⟨hrx,_⟩:=ae hφ (hx s);have hvx:a2.eval x=v:=by
  generalize a2.eval x=y at hrx;cases hrx;rfl
 unfold wpList;rw[D4 (by simp[Region.wanted,hgd])];refine .inl ?_;have hrun:(execOp a2.eval o).run P w2= .ok (.defer { target:= .fn (.func fd) #[],args:= #[v] }) w2:=by
  simp[execOp,ho,resolve,show a2.eval (.func fd)= .func (.func fd) #[] #[]from rfl,Deferred.ofValue,hvx]
 unfold Oper.wp;rw[hrun,Oper.upon_defer,hod];show c2.wp P _ { a2 with defers:=_::a2.defers } w2;have hφ2:=hφ.dfr { target:= .fn (.func fd) #[],args:= #[v] };refine wp_mono ((h3 w Z s).out _ w2 ⟨φ,hφ2⟩) λe a3 w3 ⟨_,E,⟨he,t,hE⟩,hr3⟩=> ?_;subst hE;obtain⟨ψ,hψ⟩:=hr3;have key:Leaves P fn a3.tmps (rC w Z us gs cs' news true λ_=>[]) a3.defers .returning w3:=by
  rw[hψ.df];have hpre:=hψ.preX (ps:=[(true,.raw v)]) (vs:=[v]) (hul t) (hq t) hdup (.cons (.raw v hv) .nil);obtain⟨fd',hfd,hfb,hfn⟩:=(hB t).isFn;refine leaves_cons (args:= #[v]) (by simp) ?_ (((hB t).outD w3 _ [v] .returning hpre).mono ?_)
  ·have hbb:fd'.body.isNone=false:=(by cases hfb2:fd'.body<;>simp_all);simp only[invoke,callFunc,DK,run_program,hfd,hfn,hbb,EF,if_false,Dr,DA];rfl
  ·rintro e u' w' ⟨rfl,hpost⟩;obtain⟨rs,ns,rfl,hnl,hkl,hrel,_⟩:=hψ.callX (hul t) (hq t) hdup hpost;show Leaves P fn a3.tmps _ [] .returning w';have hslot:RelW (Ctx.ofX P w us gs Z fn.ntmps) (xg (E3 t) hs2 ns us2 qs2 (cs2' t) (news2 t)).f (· <(xg (E3 t) hs2 ns us2 qs2 (cs2' t) (news2 t)).nx) (bI ψ (E3 t).nx ns) { a3 with defers:=[] } w':=by
    have h0:=hrel.undfr;refine⟨rfl,h0.sz,h0.old,h0.kept,h0.own,h0.mine,h0.inU,h0.dis,?_,?_⟩
    ·intro s sv' hs';rcases lk_eqsOn hs2 ns (E3 t).nx s sv' hs' with ⟨j,u,h4,h5,rfl⟩|h4
     ·refine⟨_,rfl,?_⟩;have hj:=(D5.1 h5).1;show bI ψ (E3 t).nx ns ((E3 t).nx+j)=u;simp only[bI];rw[D4 (by omega),D0,ET,h5];rfl
     ·exact h0.slot s sv' h4
    ·intro s sv' hs';rcases lk_eqsOn hs2 ns (E3 t).nx s sv' hs' with ⟨j,u,h4,h5,rfl⟩|h4
     ·have:=(D5.1 h5).1;show(E3 t).nx+j<(E3 t).nx+(news2 t ns).length;omega
     ·exact h0.sin s sv' h4
   obtain⟨r,h5,h6⟩:=pU.post (fn:=fn) hp.tf hslot (hfin t ns hnl);exact⟨r,h5,h6⟩
 rcases he with rfl|rfl;·exact key
 ·exact key
theorem tF {w:World}{Z:Nat->Prop}: ∀(l:List Value),(l.all (·.oneCell'))=true->L2 (Rep w Z) l (l.map .raw)
 | [],_=> .nil
 |v::l,h=>by
  simp only[Fb,DJ]at h;exact .cons (.raw v h.1) (tF l h.2)
theorem J.alr {K:Ctx}{ops:Array Oper}{dr:Bool}{o:Oper}{rest:List Oper}{sl:List (Nat×SV)}{ow:List (Nat×Option Own)}{nx:Nat}{R:St->Prop}{d:Nat}{t:TypeId}{inf:TypeInfo}{z:Value}(ho:o.op= .alloc t)(hg:wants ops (St.mk sl ow nx).f o=some true)(hd:o.dst=some d)(hlt:K.can d=true)
  (hi:K.P.info? t=some inf) (hz:inf.zero=some z) (h1:(z.cells.toList.all (·.oneCell'))=true)
  (k:J K ops dr rest ⟨(d,.ref nx)::sl,(nx,some (.box true (z.cells.toList.map .raw)))::ow,nx+1⟩ R):J K ops dr (o::rest) ⟨sl,ow,nx⟩ R:=by
 refine .does hg hd hlt (.genO (xs:=[]) (l:=[]) (by simp) rfl ?_) k;intro a w _;have hti:(typeInfo t).run K.P w= .ok inf w:=(by simp[typeInfo,hi]);have hzv:(zeroValue t).run K.P w= .ok z w:=by
  simp only[zeroValue,DK,hti,DA,hz,Dr]
 have hrun:(execOp a.eval o).run K.P w= .ok (.value (.pointer (some ⟨w.heap.size,0,none⟩))) (w.alloc (.cells z.cells t)):=by
  simp only[execOp,ho,Instr.alloc,newVar,newRow,DK,hzv,run_newObj,DA];rfl
 refine⟨_,_,hrun,cS w _,λZ=>⟨w.heap.size,t,z.cells,rfl,heap_alloc_new w _,tF _ h1,λp hp=> ?_⟩,λg hg=>by simp[VB,ax]at hg;omega⟩;obtain⟨v,_,rfl⟩:=DF.1 hp;rfl
theorem Rel.frzM {K:Ctx}{sl:List (Nat×SV)}{ow:List (Nat×Option Own)}{nx:Nat}{s o:Nat}{e:TypeId}{sz:Nat}{fr:Bool}{rows:List (List PV)}(hs:lk sl s=some (.ref o))(ho:(St.mk sl ow nx).f.own o=some (.sl e sz fr rows))(a:Act)(w:World)(hM: ∀φ,RelW K (St.mk sl ow nx).f (· <nx) φ a w->∀g,VB (φ o) g->¬K.M g)(h:Rel K ⟨sl,ow,nx⟩ a w):
  Rel K ⟨(s,.val fr (.sl rows))::sl,(o,none)::ow,nx⟩ a w:=by
 obtain⟨φ,hφ⟩:=h;have hown': ∀q c,(St.mk ((s,.val fr (.sl rows))::sl) ((o,none)::ow) nx).f.own q=some c->q≠o/\(St.mk sl ow nx).f.own q=some c:=by
  intro q c hq;simp only[St.f,ai]at hq;by_cases e:o=q;·rw[D4 e]at hq;cases hq
  ·rw[D2 e]at hq;exact⟨Ne.symm e,hq⟩
 have hZ: ∀f b,Zf K (St.mk sl ow nx).f φ f b->Zf K (St.mk ((s,.val fr (.sl rows))::sl) ((o,none)::ow) nx).f φ f b:=
  λf b hb=>⟨⟨hb.1.1,λq c hq=>hb.1.2 q c (hown' q c hq).2⟩,hb.2⟩
 refine⟨φ,hφ.df,hφ.sz,hφ.old,hφ.kept,?_,?_,?_,?_,?_,?_⟩
 ·intro q c hq;exact(hφ.own q c (hown' q c hq).2).mono (λ_ _=>rfl) λf b hb _=>⟨hZ f b hb,rfl⟩
 ·intro q c g hq;exact hφ.mine q c g (hown' q c hq).2
 ·intro q c hq;exact hφ.inU q c (hown' q c hq).2
 ·intro q q' c c' g hq hq';exact hφ.dis q q' c c' g (hown' q c hq).2 (hown' q' c' hq').2
 ·intro t sv hsv;rcases slot_put t sv hsv with ⟨rfl,rfl⟩|⟨_,h⟩
  ·obtain⟨v,hv,hr⟩:=hφ.slot t _ hs;refine⟨v,hv,?_⟩;simp only[aU,ay]at hr;subst hr;obtain⟨xs,hwn,hl,h1,h2⟩:=hφ.own o _ ho;have hl':L2 (Rep w (Zf K (St.mk ((t,.val fr (.sl rows))::sl) ((o,none)::ow) nx).f φ fr)) xs rows.flatten:=Rep.monoL (λb hb _=>⟨hZ fr b hb,rfl⟩) hl;have hcell:=λg hg=>hwn.cells (g:=g) hg;have hlt:=hwn.lt;rcases hwn.2 with ⟨hv0,hn⟩|⟨g,cap,cur,hv0,_,hgc,hnc,hcm,_⟩
   ·show Rep w _ (φ o) (.sl rows);rw[hv0];have:rows=[]:=DP hn;subst this;exact .nilsl
   ·show Rep w _ (φ o) (.sl rows);have hm:=hφ.mine o _ g ho (by rw[hv0];exact .inl Y);have hge:K.w0.heap.size<=g:=hm.resolve_right (hM φ hφ g (by rw[hv0];exact .inl Y));rw[hv0]at hcell hlt⊢;refine .sl g 0 cap sz rows xs ⟨⟨.inl hge,λq c hq hvq=> ?_⟩,λ_=>K.hF _ hge⟩ (hlt g Y).2 h1 h2 (λj v hj=> ?_) hnc hcm hl'
    ·obtain⟨hne,hq'⟩:=hown' q c hq;exact hne (hφ.dis q o c _ g hq' ho hvq (by rw[hv0];exact .inl Y))
    ·have:=hcell g Y j v hj;rw[bD]at this;exact bY hgc this
  ·obtain⟨v,hv,hr⟩:=hφ.slot t sv h;exact⟨v,hv,hr.mono (hφ.sin t sv h) (λf b hb _=>⟨hZ f b hb,rfl⟩) (λ_ _=>rfl)⟩
 ·intro t sv hsv;rcases slot_put t sv hsv with ⟨rfl,rfl⟩|⟨_,h⟩;·trivial
  ·exact hφ.sin t sv h
def B3 (E:EnvF)(o:Nat)(u:Value):Prop:=u= .slice none 0 0∨∃s q c,E.slot s=some (.eq u q)/\E.own q=some c/\q≠o
def wt (E:EnvF)(o:Nat):List Value->Prop
 | []=>True
 |u::us=>B3 E o u/\wt E o us
theorem notIns_mem {E:EnvF}{o:Nat}: ∀{us:List Value},wt E o us->∀u∈us,B3 E o u
 | [],_,u,h=>by cases h
 |v::us,h,u,hu=>by
  rcases DO.1 hu with rfl|hu;·exact h.1
  ·exact notIns_mem h.2 u hu
theorem Rel.frzX {P:Program}{w0:World}{us gs:List Value}{Z:Bool->Nat->Prop}{n:Nat}{sl:List (Nat×SV)}{ow:List (Nat×Option Own)}{nx:Nat}{s o:Nat}{e:TypeId}{sz:Nat}{fr:Bool}{rows:List (List PV)}(hs:lk sl s=some (.ref o))(ho:(St.mk sl ow nx).f.own o=some (.sl e sz fr rows))(hn:wt (St.mk sl ow nx).f o (us++gs))(a:Act)(w:World)(h:Rel (Ctx.ofX P w0 us gs Z n) ⟨sl,ow,nx⟩ a w):
  Rel (Ctx.ofX P w0 us gs Z n) ⟨(s,.val fr (.sl rows))::sl,(o,none)::ow,nx⟩ a w:=by
 refine Rel.frzM hs ho a w (λφ hφ g hg hM=> ?_) h;obtain⟨u,hu,hug⟩:=hM;rcases notIns_mem hn u hu with rfl|⟨s2,q,c,h1,h2,h3⟩;·simp[VB,ax]at hug
 ·obtain⟨_,_,e⟩:=hφ.slot s2 _ h1;have e:φ q=u:=e;exact h3 (hφ.dis q o c _ g h2 ho (by rw[e];exact hug) hg)
theorem J.mk0 {K:Ctx}{ops:Array Oper}{dr:Bool}{o:Oper}{rest:List Oper}{sl:List (Nat×SV)}{ow:List (Nat×Option Own)}{nx:Nat}{R:St->Prop}{d:Nat}{t e:TypeId}{x y:Operand}{fl fc:Bool}{kl kc:IntKind}{N2:Int}{inf:TypeInfo}{z:Value}{B sz:Nat}(n:Nat)
  (hN2:N2=(n:Nat)) (hby:B*n<=281474976710656) (hn:n<=9223372036854775807) (ho:o.op= .makeSlice t x y) (hg:wants ops (St.mk sl ow nx).f o=some true) (hd:o.dst=some d) (hlt:K.can d=true) (hx:(St.mk sl ow nx).f.get x=some (.val fl (.int kl 0))) (hy:(St.mk sl ow nx).f.get y=some (.val fc (.int kc N2)))
  (hu:K.P.underlying t=some (.slice e)) (hi:K.P.info? e=some inf) (hz:inf.zero=some z) (hs:inf.size=sz) (hB:inf.bytes=B)
  (k:J K ops dr rest ⟨(d,.ref nx)::sl,(nx,some (.sl e sz true []))::ow,nx+1⟩ R):J K ops dr (o::rest) ⟨sl,ow,nx⟩ R:=by
 refine .does hg hd hlt (.genO (xs:=[x,y]) (l:=[.int kl 0,.int kc N2]) ?_ ?_ ?_) k
 ·intro v hv;rw[ho];simpa[Op.operands]using hv
 ·simp only[du,hx,hy,SV.ff]
 ·intro a w hl;obtain⟨v1,v2,e1,h2,h3⟩: ∃v1 v2,[x,y].map a.eval=[v1,v2]/\v1= .int kl 0/\v2= .int kc N2:=by
   cases hl with
   |cons h1 h2=>cases h2 with
    |cons h2 _=>exact⟨_,_,rfl,c7 h1,c7 h2⟩
  simp only[DZ,GG,List.cons.injEq,and_true]at e1;obtain⟨e1,e2⟩:=e1;have hb':(inf.bytes:Int)*(n:Int)<=281474976710656:=by
   have h:((inf.bytes*n:Nat):Int)<=281474976710656:=(by rw[hB];exact Int.ofNat_le.2 hby);rwa[HE]at h
  have hrun:=run_make (P:=K.P) w t e inf z hu hi hz kl kc 0 n (EN _) (Fh _) hb' (Int.ofNat_le.2 hn);simp only[Int.toNat_zero,DW]at hrun;refine⟨.slice (some ⟨w.heap.size,0,none⟩) 0 n,w.alloc (.cells (madeCells z.cells (n*inf.size)) e),?_,cS w _,λZ=>⟨[],?_,.nil,by simp,by simp⟩,λg hg=>by simp[VB,ax]at hg;omega⟩
  ·simp only[execOp,ho,DK,e1,e2,h2,h3,hN2,hrun,DA];rfl
  ·rw[hs];exact World.ownsRow_made w _ n (Dz _) hn (size_madeCells _ _)
theorem Rel.cellF {K:Ctx}{sl:List (Nat×SV)}{ow:List (Nat×Option Own)}{nx:Nat}(g k:Nat){q n:Nat}{frb fr:Bool}{row:List PV}{e:TypeId}{sz:Nat}{rows:List (List PV)}{u:Value}(hM: ∀b,¬K.M b)(hq:(St.mk sl ow nx).f.own q=some (.box frb row))(hk:row[k]? =some (.raw u))(hg:lk sl g=some (.eq u n))(hn:(St.mk sl ow nx).f.own n=some (.sl e sz fr rows))(hne:Nat.beq n q=false)(a:Act)(w:World)(h:Rel K ⟨sl,ow,nx⟩ a w):
  Rel K ⟨sl,(q,some (.box (frb&&fr) (row.set k (.sl rows))))::(n,none)::ow,nx⟩ a w:=by
 obtain⟨φ,hφ⟩:=h;have hne':n≠q:=λe=>(by subst e;simp at hne);obtain⟨_,_,eu⟩:=hφ.slot g _ hg;have eu:φ n=u:=eu;have hown': ∀i c,(St.mk sl ((n,none)::ow) nx).f.own i=some c->i≠n/\(St.mk sl ow nx).f.own i=some c:=by
  intro i c hq;simp only[St.f,ai]at hq;by_cases e:n=i;·rw[D4 e]at hq;cases hq
  ·rw[D2 e]at hq;exact⟨Ne.symm e,hq⟩
 have hZ: ∀f b,Zf K (St.mk sl ow nx).f φ f b->Zf K (St.mk sl ((n,none)::ow) nx).f φ f b:=
  λf b hb=>⟨⟨hb.1.1,λi c hq=>hb.1.2 i c (hown' i c hq).2⟩,hb.2⟩
 have h1:RelW K (St.mk sl ((n,none)::ow) nx).f (· <nx) φ a w:=by
  refine⟨hφ.df,hφ.sz,hφ.old,hφ.kept,?_,?_,?_,?_,?_,hφ.sin⟩
  ·intro i c hq;exact(hφ.own i c (hown' i c hq).2).mono (λ_ _=>rfl) λf b hb _=>⟨hZ f b hb,rfl⟩
  ·intro i c g hq;exact hφ.mine i c g (hown' i c hq).2
  ·intro i c hq;exact hφ.inU i c (hown' i c hq).2
  ·intro i i' c c' g hq hq';exact hφ.dis i i' c c' g (hown' i c hq).2 (hown' i' c' hq').2
  ·intro t sv h;obtain⟨v,hv,hr⟩:=hφ.slot t sv h;exact⟨v,hv,hr.mono (hφ.sin t sv h) (λf b hb _=>⟨hZ f b hb,rfl⟩) (λ_ _=>rfl)⟩
 have hfz:Rep w (Zf K (St.mk sl ((n,none)::ow) nx).f φ fr) u (.sl rows):=by
  obtain⟨xs,hwn,hxl,h2,h3⟩:=hφ.own n _ hn;rw[eu]at hwn;have hl':L2 (Rep w (Zf K (St.mk sl ((n,none)::ow) nx).f φ fr)) xs rows.flatten:=Rep.monoL (λb hb _=>⟨hZ fr b hb,rfl⟩) hxl;have hcell:=λg hg=>hwn.cells (g:=g) hg;have hlt:=hwn.lt;rcases hwn.2 with ⟨hv0,hn0⟩|⟨b,cap,cur,hv0,_,hgc,hnc,hcm,_⟩
  ·rw[hv0];have:rows=[]:=DP hn0;subst this;exact .nilsl
  ·have hvbp:VB (φ n) b:=(by rw[eu,hv0];exact .inl Y);have hm:=hφ.mine n _ b hn hvbp;have hge:K.w0.heap.size<=b:=hm.resolve_right (hM b);rw[hv0]at hcell hlt⊢;refine .sl b 0 cap sz rows xs ⟨⟨.inl hge,λi c hq hvq=> ?_⟩,λ_=>K.hF _ hge⟩ (hlt b Y).2 h2 h3 (λj v hj=> ?_) hnc hcm hl'
   ·obtain⟨hne,hq'⟩:=hown' i c hq;exact hne (hφ.dis i n c _ b hq' hn hvq hvbp)
   ·have:=hcell b Y j v hj;rw[bD]at this;exact bY hgc this
 have hq':(St.mk sl ((n,none)::ow) nx).f.own q=some (.box frb row):=by
  simp only[St.f,ai];rw[D2 hne'];exact hq
 refine⟨φ,h1.reown hq' ?_⟩;obtain⟨b,t,cur,e0,hh,hl,ho1⟩:=h1.own q _ hq';refine⟨b,t,cur,e0,hh,L2.ofGet (by simpa using hl.length) λi v p hi hp=> ?_,λp hp=> ?_⟩
 ·by_cases hik:i=k
  ·subst hik;obtain⟨p',hp',hr⟩:=hl.getl hi;rw[hk]at hp';cases hp';have hlt:=(D5.1 hk).1;rw[E6 hlt]at hp;cases hp;cases hr;exact hfz.weak (by simp)
  ·rw[Ds (Ne.symm hik)]at hp;obtain⟨p',hp',hr⟩:=hl.getl hi;rw[hp]at hp';cases hp';exact hr.weak (by simp;exact λh _=>h)
 ·rcases DV hp with h|rfl;·exact ho1 p h
  ·rfl
theorem J.br {K:Ctx}{ops:Array Oper}{dr:Bool}{o:Oper}{rest:List Oper}{sl:List (Nat×SV)}{ow:List (Nat×Option Own)}{nx:Nat}{R:St->Prop}{d:Nat}{t:TypeId}{parts:Array (Nat×Operand)}{l:List SV}(ho:o.op= .build t parts)(hg:wants ops (St.mk sl ow nx).f o=some true)(hd:o.dst=some d)(hlt:K.can d=true)
  (hb:fB K.P (St.mk sl ow nx).f t parts.toList=some l) (k:J K ops dr rest ⟨(d,.tupB true l)::sl,ow,nx⟩ R):J K ops dr (o::rest) ⟨sl,ow,nx⟩ R:= .does hg hd hlt (.buildR ho hb) k
def zV (E:EnvF)(nm:List (Nat×Nat)):List SV->Option (Bool×List PV)
 | []=>some (true,[])
 |s::l=>match(match s with
   | .val fr p=>match p.one with
    |true=>some (fr,p)
    |false=>none
   | .nilsl=>some (true,.sl [])
   | .ref o=>match lk nm o with
    |some g=>match E.slot g,E.own o with
     |some (.eq u o2),some (.sl ..)=>match Nat.beq o2 o with
      |true=>some (true,.raw u)
      |false=>none
     |_,_=>none
    |none=>none
   |_=>none),zV E nm l with
  |some (f,p),some (fr,ps)=>some (f&&fr,p::ps)
  |_,_=>none
theorem oC {K:Ctx}{E:EnvF}{U:Nat->Prop}{φ:Nat->Value}{a:Act}{w:World}(h:RelW K E U φ a w){nm:List (Nat×Nat)}: ∀(l:List SV) (vs:List Value) (fr:Bool) (ps:List PV),zV E nm l=some (fr,ps)->L2 (ay w (Zf K E φ) φ) vs l->L2 (Rep w (Zf K E φ fr)) vs ps/\∀p∈ps,p.one=true
 | [],_,fr,ps,hr,.nil=>by
  simp only[zV,D6,Prod.mk.injEq]at hr;obtain⟨rfl,rfl⟩:=hr;exact⟨.nil,by simp⟩
 |s::l,v::vs,fr,ps,hr,.cons hv hvs=>by
  simp only[zV]at hr;split at hr
  ·rename_i f p fr2 ps2 h1 h2;simp only[D6,Prod.mk.injEq]at hr;obtain⟨rfl,rfl⟩:=hr;obtain⟨h3,h4⟩:=oC h l vs fr2 ps2 h2 hvs;have key:Rep w (Zf K E φ f) v p/\p.one=true:=by
    split at h1
    ·rename_i fr p0;split at h1
     ·rename_i h5;simp only[D6,Prod.mk.injEq]at h1;obtain⟨rfl,rfl⟩:=h1;exact⟨hv,h5⟩
     ·cases h1
    ·simp only[D6,Prod.mk.injEq]at h1;obtain⟨rfl,rfl⟩:=h1;have hv:v= .slice none 0 0:=hv;exact⟨by rw[hv];exact .nilsl,rfl⟩
    ·rename_i o;split at h1
     ·rename_i g hg;split at h1
      ·rename_i u o2 e sz frr rows h5 h6;split at h1
       ·rename_i h7;simp only[D6,Prod.mk.injEq]at h1;obtain⟨rfl,rfl⟩:=h1;obtain rfl:=EV h7;have hv:v=φ o2:=hv;obtain⟨_,_,e1⟩:=h.slot g _ h5;have e1:φ o2=u:=e1;rw[hv,e1];refine⟨.raw u ?_,rfl⟩;obtain⟨xs,hrow,_⟩:=h.own o2 _ h6;rw[e1]at hrow;rcases hrow.2 with ⟨hv,_⟩|⟨g,cap,cur,hv,_⟩<;>rw[hv]<;>rfl
       ·cases h1
      ·cases h1
     ·cases h1
    ·cases h1
   refine⟨.cons (key.1.weak (by cases f<;>simp)) (h3.imp λ_ _ h=>h.weak (by cases f<;>cases fr2<;>simp)),λq hq=> ?_⟩;cases hq with
   |head=>exact key.2
   |tail _ hq=>exact h4 q hq
  ·cases hr
theorem Rel.agraw {K:Ctx}{sl:List (Nat×SV)}{ow:List (Nat×Option Own)}{nx:Nat}{s:Nat}{l:List SV}{fr:Bool}{ps:List PV}(nm:List (Nat×Nat))(hs:lk sl s=some (.tupB true l))(hr:zV (St.mk sl ow nx).f nm l=some (fr,ps))(a:Act)(w:World)(h:Rel K ⟨sl,ow,nx⟩ a w):Rel K ⟨(s,.val fr (.agg ps))::sl,ow,nx⟩ a w:=by
 obtain⟨φ,hφ⟩:=h;obtain⟨v,hv,vs,e,hl⟩:=hφ.slot s _ hs;obtain⟨h1,h2⟩:=oC hφ l vs fr ps hr hl;refine⟨φ,hφ.reslot (sv:= .val fr (.agg ps)) hv ?_ trivial Y slot_put⟩;have e:v= .agg vs.toArray:=e;rw[e];exact .agg _ _ h1 h2
end Go.Proofs.YtopcjbahjjhdmaaGreat
namespace Go.Proofs.YtopcjbahjjhdmaaGreat
open Go Go.RowKit
open Go.ChangeMaps (setBlock)
set_option linter.unusedVariables false
set_option linter.unusedSimpArgs false
section
variable {K:Ctx}{ops:Array Oper}{dr:Bool}{o:Oper}{rest:List Oper}{sl:List (Nat×SV)}{ow:List (Nat×Option Own)}{nx:Nat}{R:St->Prop}{d:Nat}{t:TypeId}{x:Operand}
theorem ol {P:Program}{w:World}{g:Nat}{s:ByteArray}{p:Nat}(h:w.heap[g]? =some (.stringIter s p)):(getObj g).run P w= .ok (.stringIter s p) w:=by simp[getObj,Sem.run,h]
theorem vN {P:Program}{w:World}{g:Nat}{s:ByteArray}{p:Nat}(o:Obj)(h:w.heap[g]? =some (.stringIter s p)):(setObj g o).run P w= .ok () { w with heap:=w.heap.setIfInBounds g o }:=by simp[setObj,Sem.run,h]
theorem rP {w:World}{Z:Nat->Prop}{v:Value}{s:ByteArray}(h:Rep w Z v (.str s)):v= .string s:=by cases h;rfl
theorem J.rgs {fr:Bool}{s:ByteArray}(ho:o.op= .range t x)(hg:wants ops (St.mk sl ow nx).f o=some true)(hd:o.dst=some d)(hlt:K.can d=true)(hx:(St.mk sl ow nx).f.get x=some (.val fr (.str s)))(hu:K.P.underlying t=some .string)
  (k:J K ops dr rest ⟨(d,.ref nx)::sl,(nx,some (.sit s 0))::ow,nx+1⟩ R):J K ops dr (o::rest) ⟨sl,ow,nx⟩ R:=by
 refine .does hg hd hlt (.genO (xs:=[x]) (l:=[.str s]) ?_ ?_ ?_) k
 ·intro v hv;rw[ho];simpa[Op.operands]using hv
 ·simp only[du,hx,SV.ff]
 ·intro a w hl;have e1:a.eval x= .string s:=by
   cases hl with
   |cons h1 h2=>exact rP h1
  have hrun:(Instr.range t (.string s)).run K.P w= .ok (.pointer (some ⟨w.heap.size,0,none⟩)) (w.alloc (.stringIter s 0)):=by
   simp only[Instr.range,DK,run_underlying hu,DA];rfl
  refine⟨.pointer (some ⟨w.heap.size,0,none⟩),w.alloc (.stringIter s 0),?_,cS w _,λZ=>⟨w.heap.size,rfl,heap_alloc_new w _⟩,λg hg=>by simp[VB,ax]at hg;omega⟩;simp only[execOp,ho,DK,e1,hrun,DA];rfl
theorem J.nxs {qi pos:Nat}{s:ByteArray}{it:Operand}(ho:o.op= .next it true)(hg:wants ops (St.mk sl ow nx).f o=some true)(hd:o.dst=some d)(hlt:K.can d=true)(hi:(St.mk sl ow nx).f.get it=some (.ref qi))(hqi:(St.mk sl ow nx).f.own qi=some (.sit s pos))
  (k0:s.size<=pos->J K ops false rest ⟨(d,.tup [.val true (.bool false)])::sl,ow,nx⟩ R)
  (k1:pos<s.size->J K ops false rest ⟨(d,.tup [.val true (.bool true),.val true (.int .i64 pos),.val true (.int .i32 (Utf8.decode s pos).1)])::sl,(qi,some (.sit s (pos+(Utf8.decode s pos).2)))::ow,nx⟩ R):J K ops false (o::rest) ⟨sl,ow,nx⟩ R:=by
 refine⟨⟨λA w Q hr hn=> ?_⟩⟩;obtain⟨φ,hφ⟩:=hr;obtain⟨hri,_⟩:=ae hφ hi;have hri:A.eval it=φ qi:=hri;obtain⟨r,hvi,hir⟩:=hφ.own qi _ hqi;unfold wpList;rw[D4 (aE hφ hg)];refine .inl ?_;by_cases hp:pos<s.size
 ·have hrun:(execOp A.eval o).run K.P w= .ok (.value (.tuple #[.bool true,.int .i64 pos,.int .i32 (Utf8.decode s pos).1])) (setBlock w r (.stringIter s (pos+(Utf8.decode s pos).2))):=by
   simp only[execOp,ho,hri,hvi,Instr.next,DK,ol hir,DA,D4 hp,vN _ hir];rfl
  unfold Oper.wp;rw[hrun];have hrlt:=(DR.1 hir).1;have hoth: ∀b',b'<w.heap.size->¬VB (φ qi) b'->(setBlock w r (.stringIter s (pos+(Utf8.decode s pos).2))).heap[b']? =w.heap[b']? :=by
   intro b' _ hnv;have hne:r≠b':=(by rintro rfl;exact hnv (.inl (by rw[hvi];rfl)));simp[setBlock,hne]
  have h2:=hφ.turn (w':=setBlock w r (.stringIter s (pos+(Utf8.decode s pos).2))) hqi Y Y Y (by simp[setBlock]) hoth (c':= .sit s (pos+(Utf8.decode s pos).2)) λ_=>⟨r,hvi,by simp[setBlock,hrlt]⟩;have e1:(St.mk sl ((qi,some (.sit s (pos+(Utf8.decode s pos).2)))::ow) nx).f=⟨(St.mk sl ow nx).f.slot,λj=>if j=qi then some (.sit s (pos+(Utf8.decode s pos).2))else(St.mk sl ow nx).f.own j⟩:=by
   refine EnvF.ext (λ_=>rfl) λj=> ?_;simp only[St.f,ai];by_cases e:qi=j;·subst e;simp
   ·rw[D2 e,D2 (Ne.symm e)]
  rw[<-e1]at h2;have h5:RelW K (St.mk ((d,.tup [.val true (.bool true),.val true (.int .i64 pos),.val true (.int .i32 (Utf8.decode s pos).1)])::sl) ((qi,some (.sit s (pos+(Utf8.decode s pos).2)))::ow) nx).f (· <nx) φ (A.put (some d) (.tuple #[.bool true,.int .i64 pos,.int .i32 (Utf8.decode s pos).1])) _:=
   h2.put hlt (sv:= .tup [.val true (.bool true),.val true (.int .i64 pos),.val true (.int .i32 (Utf8.decode s pos).1)]) ⟨[.bool true,.int .i64 pos,.int .i32 (Utf8.decode s pos).1],rfl,.cons (Rep.bool _) (.cons (Rep.int _ _) (.cons (Rep.int _ _) .nil))⟩ (λs hs=>by
    simp only[DO,Ga,or_false]at hs;rcases hs with rfl|rfl|rfl<;>trivial) Y slot_put
  have:=(k1 hp).out.out _ _ Q ⟨φ,h5⟩ hn;rw[<-hd]at this;exact this
 ·have hrun:(execOp A.eval o).run K.P w= .ok (.value (.tuple #[.bool false])) w:=by
   simp only[execOp,ho,hri,hvi,Instr.next,DK,ol hir,DA,D2 hp];rfl
  unfold Oper.wp;rw[hrun];have h3:RelW K (St.mk ((d,.tup [.val true (.bool false)])::sl) ow nx).f (· <nx) φ (A.put (some d) (.tuple #[.bool false])) w:=hφ.put hlt (sv:= .tup [.val true (.bool false)]) ⟨[.bool false],rfl,.cons (Rep.bool _) .nil⟩ (λs hs=>by simp at hs;subst hs;trivial) Y slot_put;have:=(k0 (H7 hp)).out.out _ w Q ⟨φ,h3⟩ hn;rw[<-hd]at this;exact this
end
theorem sw {s:ByteArray}{i:Nat}(h:(s.get! i).toNat<128):Utf8.decode s i=((s.get! i).toNat,1):=by
 unfold Utf8.decode;simp only[F1];rw[D4 h]
theorem wX {s:ByteArray}{i:Nat}(h:128<=(s.get! i).toNat):128<=(Utf8.decode s i).1:=by
 unfold Utf8.decode;simp only[F1];rw[D2 (by omega)];have hr:128<=Utf8.runeError:=by decide
 repeat' split
 all_goals first|exact hr|(rename_i h1;first|exact h1|(simp only[DJ,DN]at h1;omega))
end Go.Proofs.YtopcjbahjjhdmaaGreat
namespace Go.Proofs.YtopcjbahjjhdmaaGreat
open Go Go.RowKit
set_option linter.unusedVariables false
set_option linter.unusedSimpArgs false
theorem Be {e:TypeId}{sz off:Nat}{fr f:Bool}{rows:List (List PV)}{r ps:List PV}{i:Nat}(hr:rows[i]? =some r)(hl:off+ps.length<=r.length):(Own.sl e sz fr rows).put i off sz f ps=some (.sl e sz (fr&&f) (rows.set i (putCells r off ps))):=by
 have h1:Nat.beq sz sz=true:=HB sz;have h2:Nat.ble (off+ps.length) r.length=true:=Nat.ble_eq_true_of_le hl;unfold Own.put;simp only[h1,hr,h2]
inductive Lent (E:EnvF):List PV->List PV->Prop
 |refl {cs:List PV}:Lent E cs cs
 |step {cs cs':List PV} {i g q sz:Nat} {u:Value} {e:TypeId} {fr:Bool} {rows:List (List PV)}:E.slot g=some (.eq u q)->E.own q=some (.sl e sz fr rows)->cs[i]? =some (.raw u)->Lent E (cs.set i (.sl rows)) cs'->Lent E cs cs'
inductive LentS (E:EnvF):SV->PV->Prop
 |val {fr:Bool} {p:PV}:LentS E (.val fr p) p
 |agg {fr:Bool} {cs cs':List PV}:Lent E cs cs'->LentS E (.val fr (.agg cs)) (.agg cs')
 |box {q:Nat} {fr:Bool} {row row':List PV}:E.own q=some (.box fr row)->Lent E row row'->LentS E (.optr q 0 0 0) (.ptr row')
 |ref {q sz:Nat} {e:TypeId} {fr:Bool} {rows:List (List PV)}:E.own q=some (.sl e sz fr rows)->LentS E (.ref q) (.sl rows)
 |fp {fr:Bool} {cs:List PV}:LentS E (.fptr fr cs) (.ptr cs)
def Ay (E:EnvF):List (Nat×PV)->Prop
 | []=>True
 |(s,p)::ls=>(∃sv,E.slot s=some sv/\LentS E sv p)/\Ay E ls
def AF (vs:Nat->Value)(E:EnvF):List (Nat×PV)->Prop
 | []=>True
 |(s,p)::ls=>E.slot s=some (.fix (vs s) p)/\AF vs E ls
def Ck (E:EnvF):List (Nat×PV)->Prop
 | []=>True
 |(s,p)::ns=>(∃fr,E.slot s=some (.val fr p)/\(fr||p.flat)=true)/\Ck E ns
def AJ (E:EnvF):List (Nat×PV)->Prop
 | []=>True
 |(s,p)::fl=>((∃fr,E.slot s=some (.val fr p))/\p.flat=true)/\AJ E fl
def wN (E:EnvF):List Nat->Prop
 | []=>True
 |g::gs=>(∃u q,E.slot g=some (.eq u q))/\wN E gs
def ke (sl:List (Nat×SV)):List Nat->List (Nat×SV)
 | []=>[]
 |s::ss=>match lk sl s with
  |some sv=>(s,sv)::ke sl ss
  |none=>ke sl ss
def Ctx.lent (K:Ctx)(w:World):Ctx:=⟨K.P,w,λ_=>True,λ_=>False,K.n,λb=>w.heap.size<=b,λ_ h=>h,K.lo,K.vs,K.df⟩
def BX (vs:Nat->Value)(ls ns:List (Nat×PV))(e:Exit)(E:St):Prop:=e= .normal/\AF vs E.f ls/\Ck E.f ns
theorem ur {E:EnvF}{cs cs':List PV}(h:Lent E cs cs'):(∀p∈cs,p.one=true)->∀p∈cs',p.one=true:=by
 induction h with
 |refl=>exact id
 |step _ _ _ _ ih=>
  intro h1;refine ih λp hp=> ?_;rcases DV hp with hp|rfl;·exact h1 p hp
  ·rfl
section
variable {K:Ctx}{E:EnvF}{U:Nat->Prop}{φ:Nat->Value}{a:Act}{w:World}
theorem uo (h:RelW K E U φ a w){cs cs':List PV}(hl:Lent E cs cs'): ∀{vs:List Value},L2 (Rep w (λ_=>True)) vs cs->L2 (Rep w (λ_=>True)) vs cs':=by
 induction hl with
 |refl=>exact λh=>h
 | @step cs cs' i g q sz u e fr rows hg hq hi _ ih=>
  intro vs hvs;refine ih ?_;obtain⟨v,hv,hr⟩:=hvs.get hi;obtain⟨_,_,eu⟩:=h.slot g _ hg;have eu:φ q=u:=eu;have hv':v=φ q:=(by rw[eu];cases hr;rfl);have hset:=hvs.set i (a:=v) (b:= .sl rows) (by rw[hv'];exact k9 h hq);have e1:vs.set i v=vs:=by
   refine Ej λj=> ?_;rw[EK];split
   ·rename_i hj;subst hj;split;·rw[hv]
    ·rename_i hlt;rw[EB (by omega)]
   ·rfl
  rwa[e1]at hset
theorem yV (h:RelW K E U φ a w){v:Value}{sv:SV}{p:PV}(hl:LentS E sv p)(hr:aU w (Zf K E φ) φ v sv):Rep w (λ_=>True) v p:=by
 cases hl with
 |val=>exact Rep.mono (λb _ _=>⟨trivial,rfl⟩) (show Rep w _ v p from hr)
 |agg hc=>
  have hr:Rep w _ v (.agg _):=hr;cases hr with
  |agg vs _ h1 h2=>exact .agg vs _ (uo h hc (Rep.monoL (λb _ _=>⟨trivial,rfl⟩) h1)) (ur hc h2)
 | @box q fr row row' hq hc=>
  obtain⟨gb,hgb,hv⟩:=hr;obtain⟨g',t,cur,e2,hh,hl,h1⟩:=h.own q _ hq;rw[e2]at hgb;simp only[ax,D6]at hgb;subst hgb;rw[hv];refine Rep.ptr g' (0*0+0) row' cur.toList trivial (DR.1 hh).1 (ur hc h1) (λj v hj=> ?_) (uo h hc (Rep.monoL (λb _ _=>⟨trivial,rfl⟩) hl));refine bY hh ?_;rw[show 0*0+0+j=j by omega,cell_of_row w g' j cur t (0,0) hh];simpa using hj
 |ref hq=>
  have hr:v=φ _:=hr;rw[hr];exact k9 h hq
 |fp=>
  obtain⟨b,o,xs,e,hz,hb,hl,h4,h5⟩:=hr;rw[e];exact .ptr b o _ xs trivial hb h4 h5 (Rep.monoL (λb _ _=>⟨trivial,rfl⟩) hl)
end
theorem ut {E:EnvF}: ∀{ls:List (Nat×PV)},Ay E ls->∀x∈ls,∃sv,E.slot x.1=some sv/\LentS E sv x.2
 |(s,p)::ls,h,x,hx=>by
  rcases DO.1 hx with rfl|hx;·exact h.1
  ·exact ut h.2 x hx
theorem oZ {vs:Nat->Value}: ∀{ls:List (Nat×PV)} {s:Nat} {sv:SV},lk (ls.map λx=>(x.1,SV.fix (vs x.1) x.2)) s=some sv->∃p,(s,p)∈ls/\sv= .fix (vs s) p
 | [],s,sv,h=>by simp[lk]at h
 |(t,p)::ls,s,sv,h=>by
  rw[DZ,ai]at h;split at h
  ·rename_i e;have e:t=s:=e;subst e;exact⟨p,.head _,(D3 h).symm⟩
  ·obtain⟨q,h1,h2⟩:=oZ h;exact⟨q,.tail _ h1,h2⟩
theorem fG {sl:List (Nat×SV)}: ∀{ss:List Nat} {s:Nat} {sv:SV},lk (ke sl ss) s=some sv->s∈ss/\lk sl s=some sv
 | [],s,sv,h=>by simp[ke,lk]at h
 |t::ss,s,sv,h=>by
  rw[ke]at h;split at h
  ·rename_i sv' h1;rw[ai]at h;split at h
   ·rename_i e;subst e;obtain rfl:=D3 h;exact⟨.head _,h1⟩
   ·exact⟨.tail _ (fG h).1,(fG h).2⟩
  ·exact⟨.tail _ (fG h).1,(fG h).2⟩
theorem lk_news: ∀{ns:List (Nat×PV)} {l2:List (Nat×SV)} {s:Nat} {sv:SV},lk (ns.map (λx=>(x.1,SV.val true x.2))++l2) s=some sv->(∃p,(s,p)∈ns/\sv= .val true p)∨lk l2 s=some sv
 | [],l2,s,sv,h=> .inr h
 |(t,p)::ns,l2,s,sv,h=>by
  rw[DZ,Ei,ai]at h;split at h
  ·rename_i e;have e:t=s:=e;subst e;exact .inl ⟨p,.head _,(D3 h).symm⟩
  ·rcases lk_news h with ⟨q,h1,h2⟩|h1;·exact .inl ⟨q,.tail _ h1,h2⟩
   ·exact .inr h1
theorem uz {vs:Nat->Value}{E:EnvF}: ∀{ls:List (Nat×PV)},AF vs E ls->∀s∈ls.map (·.1),∃p,E.slot s=some (.fix (vs s) p)
 |(t,p)::ls,h,s,hs=>by
  rcases DO.1 hs with rfl|hs;·exact⟨p,h.1⟩
  ·exact uz h.2 s hs
theorem xE {E:EnvF}: ∀{ns:List (Nat×PV)},Ck E ns->∀s p,(s,p)∈ns->∃fr,E.slot s=some (.val fr p)/\(fr||p.flat)=true
 |(t,p)::ns,h,s,q,hs=>by
  rcases DO.1 hs with e|hs;·cases e;exact h.1
  ·exact xE h.2 s q hs
theorem uP {E:EnvF}: ∀{fl:List (Nat×PV)},AJ E fl->∀s p,(s,p)∈fl->(∃fr,E.slot s=some (.val fr p))/\p.flat=true
 |(t,p)::fl,h,s,q,hs=>by
  rcases DO.1 hs with e|hs;·cases e;exact h.1
  ·exact uP h.2 s q hs
theorem q7 {E:EnvF}: ∀{gs:List Nat},wN E gs->∀g∈gs,∃u q,E.slot g=some (.eq u q)
 |g::gs,h,s,hs=>by
  rcases DO.1 hs with rfl|hs;·exact h.1
  ·exact q7 h.2 s hs
theorem T.lend {K:Ctx}{c:Code}{sl:List (Nat×SV)}{ow:List (Nat×Option Own)}{nx:Nat}{Q:Exit->St->Prop}(fl ls ds ns:List (Nat×PV))(gs:List Nat)
  (hf:AJ (St.mk sl ow nx).f fl) (hl:Ay (St.mk sl ow nx).f (ls++ds)) (hg:wN (St.mk sl ow nx).f gs)
  (h1: ∀(w1:World) (vs:Nat->Value),T (K.lent w1) c ⟨fl.map (λx=>(x.1,SV.val true x.2))++(ls++ds).map (λx=>(x.1,.fix (vs x.1) x.2)),[],0⟩ (BX vs ls ns))
  (h2:Q .normal ⟨ns.map (λx=>(x.1,SV.val true x.2))++ke sl (ls.map (·.1)++gs),ow,nx⟩):T K c ⟨sl,ow,nx⟩ Q:=by
 refine⟨λa w hr=> ?_⟩;obtain⟨φ,hφ⟩:=hr;let vs:Nat->Value:=λs=>a.tmps.getD s undef;have hrel:Rel (K.lent w) ⟨fl.map (λx=>(x.1,SV.val true x.2))++(ls++ds).map (λx=>(x.1,.fix (vs x.1) x.2)),[],0⟩ a w:=by
  refine⟨φ,hφ.df,hφ.sz,hφ.old,⟨rfl,rfl,rfl,DL _,λ_ _ _=>rfl⟩,?_,?_,?_,?_,?_,?_⟩;·intro o c ho;simp[St.f,lk]at ho
  ·intro o c g ho;simp[St.f,lk]at ho
  ·intro o c ho;simp[St.f,lk]at ho
  ·intro o o' c c' g ho;simp[St.f,lk]at ho
  ·intro s sv hs;rcases lk_news hs with ⟨p,hm,rfl⟩|hs
   ·obtain⟨⟨fr,h3⟩,h4⟩:=uP hf s p hm;obtain⟨v,hv,hr⟩:=hφ.slot s _ h3;exact⟨v,hv,Rep.flat (show Rep w _ v p from hr) h4⟩
   obtain⟨p,hm,rfl⟩:=oZ hs;obtain⟨sv,h3,h4⟩:=ut hl _ hm;obtain⟨v,hv,hr⟩:=hφ.slot s sv h3;refine⟨vs s,rfl,rfl,?_⟩;have e:vs s=v:=hv;rw[e];exact Rep.mono (λb _ _=>⟨⟨⟨.inr trivial,λo c ho=>by simp[St.f,lk]at ho⟩,λe=>by cases e⟩,rfl⟩) (yV hφ h4 hr)
  ·intro s sv hs;rcases lk_news hs with ⟨p,hm,rfl⟩|hs;·trivial
   ·obtain⟨p,hm,rfl⟩:=oZ hs;trivial
 refine wp_mono ((h1 w vs).out a w hrel) ?_;rintro e a' w' ⟨hfe,E,⟨rfl,hkp,hnw⟩,φ',hφ'⟩;have hk2:=hφ'.kept;have hk:=hφ.kept;have hblk: ∀b,b<w.heap.size->w'.heap[b]? =w.heap[b]? :=λb hb=>hk2.block b hb (λh=>h);refine⟨hfe,_,h2,φ,?_⟩;have hZ: ∀f b,Zf K (St.mk sl ow nx).f φ f b->b<w.heap.size->Zf K (St.mk (ns.map (λx=>(x.1,SV.val true x.2))++ke sl (ls.map (·.1)++gs)) ow nx).f φ f b/\w'.heap[b]? =w.heap[b]? :=λf b hb hlt=>⟨hb,hblk b hlt⟩;refine⟨hφ'.df,hφ'.sz,hφ'.old,⟨hk2.os.trans hk.os,hk2.tape.trans hk.tape,hk2.output.trans hk.output,Du hk.size hk2.size,λb hb hm=>(hblk b (Fx hb hk.size)).trans (hk.block b hb hm)⟩,?_,hφ.mine,hφ.inU,hφ.dis,?_,?_⟩
 ·intro o c ho;exact(hφ.own o c ho).mono (λg hg=>hblk g ((hφ.own o c ho).lt hg)) hZ
 ·intro s sv hs;rcases lk_news hs with ⟨p,hm,rfl⟩|hs
  ·obtain⟨fr,h3,h4⟩:=xE hnw s p hm;obtain⟨v,hv,hr⟩:=hφ'.slot s _ h3;refine⟨v,hv,?_⟩;have hr:Rep w' (Zf (K.lent w) E.f φ' fr) v p:=hr;have hr1:Rep w' (Zf (K.lent w) E.f φ' true) v p:=by
    cases fr with
    |true=>exact hr
    |false=>exact Rep.flat hr (by simpa using h4)
   refine Rep.mono (λb hb _=>⟨?_,rfl⟩) hr1;have hge:w.heap.size<=b:=hb.2 Y;refine⟨⟨.inl (Du hk.size hge),λq c hq hvq=> ?_⟩,λ_=>K.hF _ (Du hk.size hge)⟩;have:=(hφ.own q c hq).lt hvq;omega
  ·obtain⟨hm,h3⟩:=fG hs;obtain⟨v,hv,hr⟩:=hφ.slot s sv h3;rcases DT.1 hm with hm|hm
   ·obtain⟨p,h4⟩:=uz hkp s hm;obtain⟨v',hv',hr'⟩:=hφ'.slot s _ h4;have e1:v'=vs s:=hr'.1;refine⟨v,by rw[hv',e1];exact hv,hr.mono (hφ.sin s sv h3) hZ (λ_ _=>rfl)⟩
   ·obtain⟨u,q,h4⟩:=q7 hg s hm;rw[show lk sl s=some (.eq u q)from h4]at h3;cases h3;exact⟨_,rfl,hr⟩
 ·intro s sv hs;rcases lk_news hs with ⟨p,hm,rfl⟩|hs;·trivial
  ·exact hφ.sin s sv (fG hs).2
theorem nf {w:World}{ps qs:List MemPlace}(h:w.noneFrozen ps)(hs: ∀p∈qs,p∈ps): ∀p∈qs,MemPlace.frozenIn w p=false:=by
 intro p hp;cases p with
 |cell b off=>exact h _ _ (hs _ hp)
 |map b=>rfl
def dF {H:Type}(henc:TypeId×Value->H)(P:Program)(w:World)(t:TypeId){α:Type}(enc:α->List PV)(good:α->Prop):Prop:=
 ∀(fuel:Nat) (cs:List Value) (x:DataW H×List MemPlace),DataW.trod henc P w 0 (λ_=>true) true fuel t cs=some x->(DataW.weights P t x.1).all (· <=reachBytes)=true->(∀p∈x.2,MemPlace.frozenIn w p=false)->
  ∃a,L2 (Rep w λ_=>True) cs (enc a)/\good a
section
variable {H:Type}{henc:TypeId×Value->H}{P:Program}{w:World}
theorem yF {t:TypeId}(hu:P.underlying t=some (.int .i64)):dF henc P w t cI (λn=> -9223372036854775808<=n/\n<=9223372036854775807):=by
 intro fuel cs x h _ _;obtain⟨n,rfl,_,hw⟩:=DataW.trod_int hu h;refine⟨n,.cons (.int _ _) .nil,?_⟩;simp only[Lit.wf,DJ,DN]at hw;exact hw
theorem eY {t e:TypeId}{α:Type}{enc:α->List PV}{good:α->Prop}(hu:P.underlying t=some (.slice e))(ho:dF henc P w e enc good)(hl: ∀a,(enc a).length=P.cellsOf e)(hpos:0<P.cellsOf e)(h1: ∀a,∀p∈enc a,p.one=true):
  dF henc P w t (λl:List α=>[.sl (l.map enc)]) (λl=>l.length*P.bytesOf e<=reachBytes/\∀a∈l,good a):=by
 intro fuel cs x h hw hpl;rcases DataW.trod_slice hu h with ⟨rfl,rfl⟩|⟨a,len,cap,elems,rest,n,rfl,rfl,rfl,_,hlc,hcm,hlen,hel,_,_⟩;·exact⟨[],.cons .nilsl .nil,by simp,by simp⟩
 ·simp only[DataW.weights,hu,Fb,Er,DJ,DN]at hw;obtain⟨hb,hwe,_⟩:=hw;have hwall: ∀(l:List (DataW H×List MemPlace)),(DataW.weightsAll P e (l.map (·.1))).all (· <=reachBytes)=true->∀y∈l,(DataW.weights P e y.1).all (· <=reachBytes)=true:=by
   intro l
   induction l with
   |nil=>intro _ y hy;cases hy
   |cons z l ih=>
    intro hz y hy;simp only[DZ,DataW.weightsAll,Er,DJ]at hz;rcases DO.1 hy with rfl|hy;·exact hz.1
    ·exact ih hz.2 y hy
  have each: ∀i,i<len->∃(ys:List Value) (b:α),w.cells? 0 (a.add (i*P.cellsOf e)) (P.cellsOf e)=some ys/\L2 (Rep w λ_=>True) ys (enc b)/\good b:=by
   intro i hi;have h2:=hel i hi;have hi':i<elems.length:=(by omega);rw[D1 hi',GQ]at h2;obtain⟨ys,h3,h4⟩:=h2;obtain⟨b,h5,h6⟩:=ho n ys _ h4 (hwall elems hwe _ (D8 hi')) (λp hp=>hpl p (Dq _ (FG.2 ⟨_,Do _ (D8 hi'),hp⟩)));exact⟨ys,b,h3,h5,h6⟩
  have all_: ∀k,k<=len->∃(xs:List Value) (l:List α),l.length=k/\L2 (Rep w λ_=>True) xs (l.map enc).flatten/\(∀b∈l,good b)/\∀j v,xs[j]? =some v->w.cell? (a.add j)=some v:=by
   intro k
   induction k with
   |zero=>intro _;exact⟨[],[],rfl,.nil,by simp,by simp⟩
   |succ k ih=>
    intro hk;obtain⟨xs,l,h2,h3,h4,h5⟩:=ih (by omega);obtain⟨ys,b,h6,h7,h8⟩:=each k (by omega);obtain⟨_,h9,h10⟩:=World.cells?_some h6;have hxl:xs.length=k*P.cellsOf e:=by
     rw[h3.length,<-h2];clear h2 h3 h4
     induction l with
     |nil=>simp
     |cons c l ih=>simp[ih,hl,FM,FC]
    refine⟨xs++ys,l++[b],by simp[h2],?_,λc hc=> ?_,λj v hj=> ?_⟩
    ·rw[EC,List.flatten_append];exact h3.append (by simpa using h7)
    ·rcases DT.1 hc with hc|hc;·exact h4 c hc
     ·simp at hc;subst hc;exact h8
    ·by_cases hlt:j<xs.length
     ·rw[E9 hlt]at hj;exact h5 j v hj
     ·rw[Dw (by omega)]at hj;have hjl:=(D5.1 hj).1;have:=h10 (j-xs.length) (by omega);rw[hj]at this;rw[<-this,Addr.add_add];congr 2;omega
  obtain⟨xs,l,h2,h3,h4,h5⟩:=all_ len (DL _);refine⟨l,.cons ?_ .nil,?_,h4⟩
  ·cases hln:l with
   |nil=>
    have e0:len=0:=(by rw[<-h2,hln];rfl);rw[e0];exact .slE a cap hcm
   |cons b l'=>
    have hfl:((l.map enc).flatten).length=l.length*P.cellsOf e:=by
     have: ∀l:List α,((l.map enc).flatten).length=l.length*P.cellsOf e:=by
      intro l
      induction l with
      |nil=>simp
      |cons c l ih=>simp[ih,hl,FM,FC]
     exact this l
    ·have hx0:0<xs.length:=by
      rw[h3.length,hfl,hln];simp only[Dp,FM];omega
     have hcell:=h5 0 xs[0] (D1 hx0);have ha:(a.add 0)=a:=(by unfold Addr.add;rw[D4 Y]);rw[ha]at hcell;have hspot:a.spot=none/\a.block<w.heap.size:=by
      unfold World.cell? at hcell;split at hcell
      ·rename_i c et m hheap;refine⟨?_,(DR.1 hheap).1⟩;split at hcell;·cases hcell
       ·rename_i hs;cases hsp:a.spot with
        |none=>rfl
        |some k=>rw[hsp]at hs;simp at hs
      ·cases hcell
     obtain⟨blk,off,spot⟩:=a;simp only at hspot;obtain⟨rfl,hlt⟩:=hspot;rw[<-hln];have:=Rep.sl (w:=w) (Z:=λ_=>True) blk off cap (P.cellsOf e) (l.map enc) xs trivial hlt (λr hr=>by obtain⟨c,_,rfl⟩:=DF.1 hr;exact hl c) (λr hr=>by obtain⟨c,_,rfl⟩:=DF.1 hr;exact h1 c)
      (λj v hj=>by
       have hfz:=hpl (.cell blk (off+j)) (Do _ (DF.2 ⟨j,DM.2 (by
        have:=(D5.1 hj).1;rw[h3.length,hfl,h2]at this;have e3:elems.length*P.cellsOf e<=(elems.length+rest.length)*P.cellsOf e:=EA _ (by omega);rw[<-hlen]at this;omega),rfl⟩))
       have:=h5 j v hj;have e:(⟨blk,off,none⟩:Addr).add j=⟨blk,off+j,none⟩:=(by unfold Addr.add;split<;>simp_all);rw[e]at this;exact⟨this,hfz⟩) (by simp;omega) hcm h3
     rw[D9,h2]at this;exact this
  ·simp only[D9]at hb;rw[h2,<-hlen];exact Du (EA _ (by omega)) hb
def sP {H:Type}(henc:TypeId×Value->H)(P:Program)(w:World)(off:Nat)(fs:List Field){α:Type}(enc:α->List PV)(good:α->Prop):Prop:=
 ∀(fuel:Nat) (cs:List Value) (xs:List (DataW H×List MemPlace)),(∀(i:Nat) (f:Field),fs[i]? =some f->DataW.trod henc P w 0 (λ_=>true) true fuel f.type ((cs.drop f.offset).take (P.cellsOf f.type))=xs[i]?)->xs.length=fs.length->
  (DataW.weightsEach P (fs.map (·.type)) (xs.map (·.1))).all (· <=reachBytes)=true->cs.length=off+(fs.map λf=>P.cellsOf f.type).sum->(∀p∈xs.flatMap (·.2),MemPlace.frozenIn w p=false)->∃a,L2 (Rep w λ_=>True) (cs.drop off) (enc a)/\good a
theorem fO (off:Nat):sP henc P w off [] (λ_:Unit=>[]) (λ_=>True):=by
 intro fuel cs xs _ _ _ hl _;refine⟨(),?_,trivial⟩;rw[Ef (by simp at hl;omega)];exact .nil
theorem aP {off:Nat}{f:Field}{fs:List Field}{α β:Type}{enc:α->List PV}{good:α->Prop}{enc2:β->List PV}{good2:β->Prop}(ho:dF henc P w f.type enc good)(hf:f.offset=off)(hr:sP henc P w (off+P.cellsOf f.type) fs enc2 good2):
  sP henc P w off (f::fs) (λx:α×β=>enc x.1++enc2 x.2) (λx=>good x.1/\good2 x.2):=by
 intro fuel cs xs hx hlen hw hl hpl;cases xs with
 |nil=>simp at hlen
 |cons x xs=>
  simp only[DZ,DataW.weightsEach,Er,DJ]at hw;have h0:=hx 0 f Y;simp only[FE,hf]at h0;simp only[F2,DT]at hpl;obtain⟨a,h1,h2⟩:=ho fuel _ x h0 hw.1 (λp hp=>hpl p (.inl hp));simp only[DZ,Eb]at hl;obtain⟨b,h3,h4⟩:=hr fuel cs xs (λi g hg=>by simpa using hx (i+1) g (by simpa using hg)) (by simpa using hlen) hw.2 (by omega) (λp hp=>hpl p (.inr hp));refine⟨(a,b),?_,h2,h4⟩;have e:cs.drop off=(cs.drop off).take (P.cellsOf f.type)++cs.drop (off+P.cellsOf f.type):=by
   rw[<-HF,FP]
  rw[e];exact h1.append h3
theorem dZ {t:TypeId}{fs:Array Field}{α:Type}{enc:α->List PV}{good:α->Prop}(hu:P.underlying t=some (.struct fs))(ho:sP henc P w 0 fs.toList enc good)(hs:P.cellsOf t=(fs.toList.map λf=>P.cellsOf f.type).sum):dF henc P w t enc good:=by
 intro fuel cs x h hw hpl;obtain⟨xs,n,rfl,rfl,hl,hxl,hx⟩:=DataW.trod_struct hu h;simp only[DataW.weights,hu]at hw;obtain⟨a,h1,h2⟩:=ho n cs xs (λi f hf=>hx i f (by simpa using hf)) (by simpa using hxl) hw (by omega) hpl;exact⟨a,by simpa using h1,h2⟩
theorem dF.map {t:TypeId}{α β:Type}{enc:α->List PV}{good:α->Prop}{enc2:β->List PV}{good2:β->Prop}(h:dF henc P w t enc good)(f:α->β)(he: ∀a,enc2 (f a)=enc a)(hg: ∀a,good a->good2 (f a)):dF henc P w t enc2 good2:=by
 intro fuel cs x h1 h2 h2';obtain⟨a,h3,h4⟩:=h fuel cs x h1 h2 h2';exact⟨f a,by rw[he];exact h3,hg a h4⟩
end
end Go.Proofs.YtopcjbahjjhdmaaGreat
