/- The texts FuD, FnO, PuA, PuB, PuC, LiA, FnR, FnS, FuE, FuF, FuG, FuH, FuI, PuM, FvR, PuQ, PuR, FnP, FnQ, FgH, FgK, FnT of the workplace, joined. -/
import Derived.Test.YtopcjbahjjhdmaaGreatB5
import Derived.Lib.Mul64
import Derived.Sort.OwnSortedInts
namespace Go.Proofs.YtopcjbahjjhdmaaGreat
open Go Go.RowKit
set_option linter.unusedVariables false
set_option linter.unusedSimpArgs false
set_option maxRecDepth 8000
def gN (out:List (Int×Int))(v:Int):List (Int×Int):=match out.getLast? with
 |none=>out++[(v,v)]
 |some (a,b)=>if b>=v then out else if b=v-1 then out.dropLast++[(a,v)]else out++[(v,v)]
def packG (l:List Int):List (Int×Int):=l.foldl gN []
theorem rK (v:Int):gN [] v=[(v,v)]:=rfl
theorem iJ (o:List (Int×Int))(a b v:Int):gN (o++[(a,b)]) v=if b>=v then o++[(a,b)]else if b=v-1 then o++[(a,v)]else o++[(a,b)]++[(v,v)]:=by
 unfold gN;rw[H9];simp
theorem zF (o:List (Int×Int))(v:Int):(gN o v).length<=o.length+1:=by
 rcases G5 o with rfl|⟨o,⟨a,b⟩,rfl⟩;·exact EO _
 ·rw[Fv,iJ];split;·simp
  ·split<;>simp
theorem rL (l:List Int):(packG l).length<=l.length:=by
 have: ∀(l:List Int) (o:List (Int×Int)),(l.foldl gN o).length<=o.length+l.length:=by
  intro l
  induction l with
  |nil=>intro o;exact EO _
  |cons v l ih=>intro o;have h1:=ih (gN o v);have h2:=zF o v;rw[Eg,Ef];omega
 have h:=this l [];simp only[Fa,Fs]at h;exact h
theorem xt (l:List Int)(v:Int):packG (l++[v])=gN (packG l) v:=by simp[packG]
theorem u9 {e:TypeId}{fr:Bool}(o:List (Int×Int))(a b v:Int):Own.put (.sl e 2 fr ((o++[(a,b)]).map cR)) o.length 1 2 true [.int .i64 v]=some (.sl e 2 fr ((o++[(a,v)]).map cR)):=by
 have h:((o++[(a,b)]).map cR)[o.length]? =some (cR (a,b)):=(by simp);show(match Nat.beq 2 2,((o++[(a,b)]).map cR)[o.length]? with|true,some r=>(match Nat.ble (1+1) r.length with|true=>some (Own.sl e 2 (fr&&true) (((o++[(a,b)]).map cR).set o.length (putCells r 1 [.int .i64 v])))|false=>none)|_,_=>none)=_;rw[h];show some (Own.sl e 2 (fr&&true) _)=_;rw[Hz];congr 2;rw[Ey,Ey,show o.length=(o.map cR).length+0 by simp,Gu _ _ (by simp)];simp[cR,putCells]
theorem vk (l:List Int)(hv: ∀v∈l,aN v=true)(hl:l.length*16<=140737488355328):Spec Tryz.prog 227 false [aq l] [.own 53 2 ((packG l).map cR)]:=by
 refine Spec.body Tryz.func227 Y Y Y λw0 Z0=> ?_;refine .B ?_;refine T.sub (Rel.own0 (s:=3) 53 2 Y) ?_;refine T.K (T.list l (λn pre post=>⟨[(3,.ref 0),(7,.val false (aq l)),(8,.val true (.int .i64 (l.map cI).length)),(9,.val true (.int .i64 n))],[(0,some (.sl 53 2 true ((packG pre).map cR)))],1⟩) (λ_ _ h=>h) ?_ ?_)
 ·rintro n pre v post h hn ih;have hlt:=bW h hn;have hpl:=rL pre;have hvv: -1048576<=v/\v<=1048576:=(by simpa[aN]using hv v (by rw[h];simp));rw[xt]at ih;refine .B ?_;refine T.ct2 Y (bV h hn) ?_;refine .B ?_;refine .I (r:=cI v) (aM h hn) ?_;generalize packG pre=out at*;refine .B ?_;rcases G5 out with rfl|⟨o,⟨a,b⟩,rfl⟩
  ·refine J.g Y Y Y (λh2=> ?_) (λh2=> ?_);·simp at h2
   refine .B ?_;refine T.cf Y ?_;refine .B ?_;refine T.cf Y ?_;refine .B ?_;refine .Z ?_;refine J.aR Y Y Y Y Y Y Y Y Y Y Y Y Y Y Y Y Y Y Y (by simp) ?_;refine .B ?_;rw[ai hlt (by omega)];exact T.K ih
  ·rw[Fv]at*;rw[iJ]at ih;refine J.g Y Y Y (λh2=> ?_) (λh2=> ?_)
   rotate_left
   ·simp at h2
   have hol:(o.map cR).length+1=(o++[(a,b)]).length:=(by simp);have hlw:IntKind.i64.wrap (((((o++[(a,b)]).map cR).length:Nat):Int)-1)=(o.length:Int):=by
    rw[EB,EZ,ae]<;>simp at* <;>omega
   have hro:((o++[(a,b)]).map cR)[((o.length:Nat):Int).toNat]? =some (cR (a,b)):=(by simp);refine .B ?_;rw[hlw];refine J.io Y Y Y Y Y Y Y Y Y (by omega) (by simp) rfl ?_;refine .B ?_;refine J.lo Y Y Y Y Y Y (r:=cR (a,b)) hro Y ?_;refine .B ?_;refine T.cd Y (λh3=> ?_) (λh3=> ?_)
   ·rw[E6 h3]at ih;refine .B ?_;rw[ai hlt (by omega)];exact T.K ih
   rw[E4 h3]at ih;refine .B ?_;refine J.g Y Y Y (λh4=> ?_) (λh4=> ?_)
   rotate_left
   ·simp at h4
   refine .B ?_;rw[hlw];refine J.io Y Y Y Y Y Y Y Y Y (by omega) (by simp) rfl ?_;refine .B ?_;refine J.lo Y Y Y Y Y Y (r:=cR (a,b)) hro Y ?_;refine .B ?_;rw[ae (n:=v-1) (by omega) (by omega)];refine T.cd Y (λh5=> ?_) (λh5=> ?_)
   ·rw[E6 h5]at ih;refine .B ?_;rw[hlw];refine J.io Y Y Y Y Y Y Y Y Y (by omega) (by simp) rfl ?_;refine .B ?_;refine J.w Y Y Y Y Y Y Y Y Y (u9 o a b v) ?_;refine .B ?_;rw[ai hlt (by omega)];exact T.K ih
   ·rw[E4 h5]at ih;refine .B ?_;refine .Z ?_;refine J.aR Y Y Y Y Y Y Y Y Y Y Y Y Y Y Y Y Y Y Y (by omega) ?_;refine .B ?_;rw[ai hlt (by omega)];exact T.K ih
 ·refine .B ?_;refine T.cf2 Y bj ?_;refine .B ?_;exact⟨_,.o Y Y Y (λ_=> .inl Y) (by simp) .nil⟩
def aB (d:List (Int×Int)):Prop:=(∀r∈d,r.1<=r.2)/\d.Pairwise λr s=>r.2+2<=s.1
def Up (l:List Int):Prop:=l.Pairwise (· < ·)
theorem cQ {lo hi v:Int}:v∈rng lo hi↔lo<=v/\v<=hi:=by
 simp only[rng,EH,ES];constructor;·rintro⟨k,hk,rfl⟩;omega
 ·intro h;exact⟨(v-lo).toNat,by omega,by omega⟩
theorem be {d:List (Int×Int)}{v:Int}:v∈vals d↔∃r∈d,r.1<=v/\v<=r.2:=by
 simp only[vals,GB,cQ]
theorem uS {lo x:Int}(h:lo<=x+1):rng lo (x+1)=rng lo x++[x+1]:=by
 unfold rng;rw[show(x+1+1-lo).toNat=(x+1-lo).toNat+1 by omega,HJ,Ey];simp;omega
theorem cH (x:Int):rng x x=[x]:=by
 unfold rng;rw[show(x+1-x).toNat=1 by omega];simp[HJ]
theorem jw {lo hi:Int}(h:lo<=hi):rng lo hi=lo::rng (lo+1) hi:=by
 unfold rng;rw[show(hi+1-lo).toNat=(hi+1-(lo+1)).toNat+1 by omega,List.range_succ_eq_map,Ee,Fc];simp only[Int.natCast_zero,Int.add_zero,List.cons.injEq,true_and];apply F0;intro a _;simp;omega
theorem AY {lo hi:Int}(h:hi<lo):rng lo hi=[]:=by
 unfold rng;rw[show(hi+1-lo).toNat=0 by omega];rfl
theorem C5 (lo hi:Int):Up (rng lo hi):=by
 unfold Up rng;rw[H3];exact List.pairwise_lt_range.imp λh=>by omega
theorem aB.tail {r:Int×Int}{d:List (Int×Int)}(h:aB (r::d)):aB d:=⟨λs hs=>h.1 s (.tail _ hs),(Ec.1 h.2).2⟩
theorem bC (r:Int×Int)(d:List (Int×Int)):vals (r::d)=rng r.1 r.2++vals d:=rfl
theorem aG: ∀{d:List (Int×Int)},aB d->Up (vals d)
 | [],_=> .nil
 |r::d,h=>by
  rw[bC];refine Fz.2 ⟨C5 _ _,aG h.tail,λa ha b hb=> ?_⟩;obtain⟨s,hs,h1,h2⟩:=be.1 hb;have:=(cQ.1 ha).2;have:=(Ec.1 h.2).1 s hs;omega
theorem k6: ∀(l:List Int) (lo x:Int),lo<=x->Up (x::l)->vals (dp lo x l)=rng lo x++l
 | [],lo,x,_,_=>by simp[dp,vals]
 |y::l,lo,x,hlo,hu=>by
  have h1:=Ec.1 hu;have hxy:=h1.1 y (.head _);simp only[dp];split
  ·rename_i e;rw[k6 l lo y (by omega) h1.2,e,uS (by omega)];simp
  ·rw[bC,k6 l y y (FL _) h1.2,cH];simp
theorem bG {l:List Int}(h:Up l):vals (bX l)=l:=by
 cases l with
 |nil=>rfl
 |cons x l=>rw[bX,k6 l x x (FL _) h,cH];rfl
theorem pN: ∀(l:List Int) (lo x:Int),lo<=x->Up (x::l)->aB (dp lo x l)/\∀r∈dp lo x l,lo<=r.1
 | [],lo,x,h,_=>by simp[dp,aB,h]
 |y::l,lo,x,hlo,hu=>by
  have h1:=Ec.1 hu;have hxy:=h1.1 y (.head _);simp only[dp];split;·exact pN l lo y (by omega) h1.2
  ·obtain⟨h2,h3⟩:=pN l y y (FL _) h1.2;refine⟨⟨λr hr=> ?_,Ec.2 ⟨λr hr=> ?_,h2.2⟩⟩,λr hr=> ?_⟩
   ·rcases ET.1 hr with rfl|hr;·exact hlo
    ·exact h2.1 r hr
   ·have:=h3 r hr;simp only;omega
   ·rcases ET.1 hr with rfl|hr;·exact FL _
    ·have:=h3 r hr;omega
theorem fR {l:List Int}(h:Up l):aB (bX l):=by
 cases l with
 |nil=>exact⟨by simp[bX],.nil⟩
 |cons x l=>exact(pN l x x (FL _) h).1
theorem rM: ∀(n:Nat) (lo x hi:Int) (l:List Int),hi=x+n->(∀y∈l.head?,hi+2<=y)->dp lo x (rng (x+1) hi++l)=(lo,hi)::bX l
 |0,lo,x,hi,l,e,h=>by
  have:hi=x:=(by omega);subst this;rw[AY (by omega),FZ];cases l with
  |nil=>rfl
  |cons y l=>
   have:=h y Y;simp only[dp];rw[E4 (by omega)];rfl
 |n+1,lo,x,hi,l,e,h=>by
  rw[jw (by omega),Fg,dp,E6 Y];exact rM n lo (x+1) hi l (by omega) h
theorem e8: ∀{d:List (Int×Int)},aB d->bX (vals d)=d
 | [],_=>rfl
 |r::d,h=>by
  have hr:=h.1 r (.head _);rw[bC,jw hr,Fg,bX,rM (r.2-r.1).toNat r.1 r.1 r.2 (vals d) (by omega) ?_,e8 h.tail];intro y hy;have hm:y∈vals d:=List.mem_of_mem_head? hy;obtain⟨s,hs,h1,h2⟩:=be.1 hm;have:=(Ec.1 h.2).1 s hs;omega
theorem fX {d d':List (Int×Int)}(h:aB d)(h':aB d')(e:vals d=vals d'):d=d':=by
 rw[<-e8 h,<-e8 h',e]
theorem yT {v:Int}: ∀{l:List Int},Up l->v∉l->Up (nk v l)
 | [],_,_=>by simp[nk,Up]
 |x::l,h,hn=>by
  have h1:=Ec.1 h;simp only[nk];split
  ·refine Ec.2 ⟨λy hy=> ?_,h⟩;rcases ET.1 hy with rfl|hy;·assumption
   ·have:=h1.1 y hy;omega
  ·refine Ec.2 ⟨λy hy=> ?_,yT h1.2 λh=>hn (.tail _ h)⟩;have hm:y∈insU v l:=(by unfold insU;rw[E4 (show¬v∈l from λh=>hn (.tail _ h))];exact hy);rcases (vV v y l).1 hm with rfl|hy
   ·have:y≠x:=λe=>hn (e▸.head _);omega
   ·exact h1.1 y hy
theorem CF {v:Int}{l:List Int}(h:Up l):Up (insU v l):=by
 unfold insU;split;·exact h
 ·rename_i hn;exact yT h hn
theorem ca (l:List Int):Up (aT l):=by
 have key: ∀(l out:List Int),Up out->Up (l.foldl (λout v=>insU v out) out):=by
  intro l
  induction l with
  |nil=>intro out h;exact h
  |cons v l ih=>intro out h;exact ih _ (CF h)
 exact key l [] .nil
theorem fm {l:List Int}{p:Int->Bool}(h:Up l):Up (l.filter p):=List.Pairwise.sublist List.filter_sublist h
theorem dF {l:List Int}(h:Up l):l.Nodup:=h.imp λh=>Int.ne_of_lt h
theorem fo {d:List (Int×Int)}(h:aB d):vals d=[]↔d=[]:=by
 cases d with
 |nil=>simp[vals]
 |cons r d=>
  rw[bC,jw (h.1 r (.head _))];simp
theorem mM {r:Int×Int}{d:List (Int×Int)}(h:aB (r::d)): ∃l,vals (r::d)=r.1::l:=by
 rw[bC,jw (h.1 r (.head _))];exact⟨_,rfl⟩
theorem mL {d:List (Int×Int)}(h:aB d)(hne:d≠[]):(vals d).getLast? =some (aP d):=by
 obtain⟨d',r,rfl⟩: ∃d' r,d=d'++[r]:=⟨d.dropLast,d.getLast hne,(Hd hne).symm⟩;have hr:=h.1 r (by simp);have e:vals (d'++[r])=vals d'++rng r.1 r.2:=(by simp[vals]);rw[e];have e2:rng r.1 r.2=rng r.1 (r.2-1)++[r.2]:=by
  have:=uS (lo:=r.1) (x:=r.2-1) (by omega);rwa[show r.2-1+1=r.2 by omega]at this
 rw[e2,<-Ez];simp[aP]
theorem qC {d:List (Int×Int)}(h:aB d)(hne:d≠[]):dt d=(av d,aP d,true):=by
 cases d with
 |nil=>exact EX rfl hne
 |cons r d=>
  obtain⟨l,hl⟩:=mM h;have hlast:=mL h hne;unfold dt;split;·rename_i e;rw[hl]at e;cases e
  ·rename_i x l' e;rw[hl]at e;obtain⟨rfl,rfl⟩:=List.cons.inj e;rw[hl,Gn (by simp)]at hlast;simp only[E9]at hlast;rw[hlast];rfl
theorem gg {d:List (Int×Int)}(h:aB d)(hne:d≠[]):av d∈vals d:=by
 cases d with
 |nil=>exact EX rfl hne
 |cons r d=>obtain⟨l,hl⟩:=mM h;rw[hl];exact .head _
theorem qg {d:List (Int×Int)}(h:aB d)(hne:d≠[]):aP d∈vals d:=HY (mL h hne)
theorem mi {d:List (Int×Int)}(h:aB d){v:Int}(hv:v∈vals d):av d<=v:=by
 cases d with
 |nil=>simp[vals]at hv
 |cons r d=>
  obtain⟨l,hl⟩:=mM h;have hu:=aG h;rw[hl]at hu hv;rcases ET.1 hv with rfl|hv;·exact FL _
  ·exact Int.le_of_lt ((Ec.1 hu).1 v hv)
theorem oL {d:List (Int×Int)}(h:aB d){v:Int}(hv:v∈vals d):v<=aP d:=by
 have hne:d≠[]:=λe=>(by rw[e]at hv;simp[vals]at hv);have hu:=aG h;obtain⟨l,hl⟩: ∃l,vals d=l++[aP d]:=by
  have:=mL h hne;obtain⟨l,hl⟩:=List.getLast?_eq_some_iff.1 this;exact⟨l,hl⟩
 rw[hl]at hu hv;rcases EW.1 hv with hv|hv;·exact Int.le_of_lt ((Fz.1 hu).2.2 v hv _ (by simp))
 ·simp at hv;omega
theorem dX: ∀{l l':List Int},Up l->Up l'->(∀v,v∈l↔v∈l')->l=l'
 | [],[],_,_,_=>rfl
 | [],y::l',_,_,h=>by have:=(h y).2 (.head _);cases this
 |x::l,[],_,_,h=>by have:=(h x).1 (.head _);cases this
 |x::l,y::l',h1,h2,h=>by
  have a1:=Ec.1 h1;have a2:=Ec.1 h2;have e:x=y:=by
   rcases ET.1 ((h x).1 (.head _))with e|e;·exact e
   ·rcases ET.1 ((h y).2 (.head _))with e2|e2;·exact e2.symm
    ·have:=a2.1 x e;have:=a1.1 y e2;omega
  subst e;congr 1;refine dX a1.2 a2.2 λv=>⟨λhv=> ?_,λhv=> ?_⟩
  ·rcases ET.1 ((h v).1 (.tail _ hv))with rfl|h3;·have:=a1.1 v hv;omega
   ·exact h3
  ·rcases ET.1 ((h v).2 (.tail _ hv))with rfl|h3;·have:=a2.1 v hv;omega
   ·exact h3
theorem pY {lo hi:Int}: ∀{d:List (Int×Int)},aB d->aB (bI d [(lo,hi)])/\(∀r∈bI d [(lo,hi)],∃s∈d,s.1<=r.1/\r.2<=s.2)/\∀v,v∈vals (bI d [(lo,hi)])↔v∈vals d/\lo<=v/\v<=hi
 | [],_=>by rw[oK];exact⟨⟨by simp,.nil⟩,by simp,by simp[vals]⟩
 |x::d,h=>by
  obtain⟨h1,h2,h3⟩:=pY (lo:=lo) (hi:=hi) h.tail;have hx:=h.1 x (.head _);have hp:=(Ec.1 h.2).1;have hvd: ∀v∈vals d,x.2+2<=v:=λv hv=>by
   obtain⟨s,hs,h4,h5⟩:=be.1 hv;have:=hp s hs;omega
  rw[iO,oJ];have tailOk:aB (if x.2<hi then bI d [(lo,hi)]else [])/\(∀r∈(if x.2<hi then bI d [(lo,hi)]else []),∃s∈d,s.1<=r.1/\r.2<=s.2)/\∀v,v∈vals (if x.2<hi then bI d [(lo,hi)]else [])↔v∈vals d/\lo<=v/\v<=hi:=by
   split;·exact⟨h1,h2,h3⟩
   ·refine⟨⟨by simp,.nil⟩,by simp,λv=>⟨λh=>by simp[vals]at h,λh=> ?_⟩⟩;have:=hvd v h.1;omega
  generalize (if x.2<hi then bI d [(lo,hi)]else [])=t at*;obtain⟨t1,t2,t3⟩:=tailOk;split
  ·rename_i hc;refine⟨⟨λr hr=> ?_,?_⟩,λr hr=> ?_,λv=> ?_⟩
   ·rcases ET.1 hr with rfl|hr;·exact hc
    ·exact t1.1 r hr
   ·refine Ec.2 ⟨λr hr=> ?_,t1.2⟩;obtain⟨s,hs,h5,h6⟩:=t2 r hr;have:=hp s hs;simp only;omega
   ·rcases ET.1 hr with rfl|hr;·exact⟨x,.head _,by simp only;omega,by simp only;omega⟩
    ·obtain⟨s,hs,h5,h6⟩:=t2 r hr;exact⟨s,.tail _ hs,h5,h6⟩
   ·rw[List.singleton_append,bC,bC,EW,EW,cQ,cQ,t3];constructor
    ·rintro(h7|h7);·exact⟨.inl (by omega),by omega,by omega⟩
     ·exact⟨.inr h7.1,h7.2⟩
    ·rintro⟨h7|h7,h8⟩;·exact .inl (by simp only;omega)
     ·exact .inr ⟨h7,h8⟩
  ·rename_i hc;rw[FZ];refine⟨t1,λr hr=> ?_,λv=> ?_⟩
   ·obtain⟨s,hs,h5,h6⟩:=t2 r hr;exact⟨s,.tail _ hs,h5,h6⟩
   ·rw[bC,EW,cQ,t3];constructor;·exact λh7=>⟨.inr h7.1,h7.2⟩
    ·rintro⟨h7|h7,h8⟩;·omega
     ·exact⟨h7,h8⟩
theorem bR {d:List (Int×Int)}(h:aB d)(lo hi:Int):aB (domCut d lo hi)/\∀v,v∈vals (domCut d lo hi)↔v∈vals d/\lo<=v/\v<=hi:=by
 unfold domCut;split;·exact⟨⟨by simp,.nil⟩,λv=>⟨λh=>by simp[vals]at h,λh=>by omega⟩⟩
 ·exact⟨(pY h).1,(pY h).2.2⟩
theorem mE {d:List (Int×Int)}(h:aB d)(lo hi:Int):aB (cutR d lo hi)/\∀v,v∈vals (cutR d lo hi)↔v∈vals d/\lo<=v/\v<=hi:=by
 have hu:=fm (p:=λv=>decide (lo<=v)&&decide (v<=hi)) (aG h);exact⟨fR hu,λv=>by rw[cutR,bG hu];simp⟩
theorem x9 {d:List (Int×Int)}(h:aB d){lo hi lo' hi':Int}(he: ∀v∈vals d,(lo<=v/\v<=hi↔lo'<=v/\v<=hi')):domCut d lo hi=cutR d lo' hi':=by
 obtain⟨h1,h2⟩:=bR h lo hi;obtain⟨h3,h4⟩:=mE h lo' hi';refine fX h1 h3 (dX (aG h1) (aG h3) λv=> ?_);rw[h2,h4];exact⟨λ⟨a,b⟩=>⟨a,(he v a).1 b⟩,λ⟨a,b⟩=>⟨a,(he v a).2 b⟩⟩
theorem j5 {d:List (Int×Int)}(h:aB d):(vals d).length=1↔∃x,d=[(x,x)]:=by
 constructor
 ·intro hl;obtain⟨x,hx⟩:=Gt.1 hl;exact⟨x,by rw[<-e8 h,hx];rfl⟩
 ·rintro⟨x,rfl⟩;rw[bC,cH];rfl
theorem sa {d:List (Int×Int)}(h:aB d):(d≠[]/\av d=aP d)↔∃x,d=[(x,x)]:=by
 constructor
 ·rintro⟨hne,he⟩;refine(j5 h).1 ?_;have hu:=aG h;have hm:=gg h hne;cases hv:vals d with
  |nil=>rw[hv]at hm;cases hm
  |cons y l=>
   cases l with
   |nil=>rfl
   |cons z l=>
    have h1:=mi h (v:=y) (by rw[hv];simp);have h2:=oL h (v:=z) (by rw[hv];simp);rw[hv]at hu;have:=(Ec.1 hu).1 z (by simp);omega
 ·rintro⟨x,rfl⟩;exact⟨by simp,rfl⟩
theorem qh {a b:Int}{da db:List (Int×Int)}(ha:aB da)(hb:aB db):gC a b da db=true↔a=b∨((vals da).length=1/\da=db):=by
 simp only[gC,Fl,EL,ER,ofD,Prod.mk.injEq];refine or_congr_right ⟨?_,?_⟩
 ·rintro⟨⟨⟨h1,h2⟩,h3⟩,h4,h5⟩;obtain⟨x,rfl⟩:=(sa ha).1 ⟨Gd h1,h3⟩;obtain⟨y,rfl⟩:=(sa hb).1 ⟨Gd h2,by omega⟩;refine⟨(j5 ha).2 ⟨x,rfl⟩,?_⟩;have:x=y:=h4;rw[this]
 ·rintro⟨h1,rfl⟩;obtain⟨x,rfl⟩:=(j5 ha).1 h1;exact⟨⟨⟨by simp,by simp⟩,rfl⟩,rfl,rfl⟩
theorem BH {a b:Int}{da db:List (Int×Int)}(ha:aB da)(hb:aB db):gC a b da db=nh a b da db:=by
 rw[GK,qh ha hb];simp only[nh,Fl,EL,ER];refine or_congr_right (and_congr_right λ_=>⟨λe=>by rw[e],λe=>fX ha hb e⟩)
theorem y0 {d:List (Int×Int)}(h:aB d)(hv: ∀v∈vals d,-1048576<=v/\v<=1048576):InB d:=by
 intro r hr;have h1:=h.1 r hr;have h2:=hv r.1 (be.2 ⟨r,hr,FL _,h1⟩);have h3:=hv r.2 (be.2 ⟨r,hr,h1,FL _⟩);omega
theorem bM: ∀{d:List (Int×Int)},aB d->d.length<=(vals d).length
 | [],_=>by simp
 |r::d,h=>by
  have:=bM h.tail;have hr:=h.1 r (.head _);rw[bC,jw hr];simp only[Ef,EZ];omega
structure Fine (d:List (Int×Int)):Prop where
 ok:aB d
 val: ∀v∈vals d,-1048576<=v/\v<=1048576
 few:(vals d).length*16+1048576<=140737488355328
theorem Fine.domB {d:List (Int×Int)}(h:Fine d):DomB d:=⟨y0 h.ok h.val,by have:=h.few;omega,by have:=h.few;have:=bM h.ok;omega⟩
theorem Fine.len {d:List (Int×Int)}(h:Fine d):d.length*16+1048576<=140737488355328:=by have:=h.few;have:=bM h.ok;omega
theorem cq {l l':List Int}(h:Up l)(hs: ∀v∈l,v∈l'):l.length<=l'.length:=(dF h).length_le_of_subset hs
theorem Fine.cut {d d':List (Int×Int)}(h:Fine d)(h':aB d')(hs: ∀v∈vals d',v∈vals d):Fine d':=
 ⟨h',λv hv=>h.val v (hs v hv),by have:=h.few;have:=cq (aG h') hs;omega⟩
theorem ft {p:Nat->Bool}{h j:Nat}(hj:j<dJ p h):p j=true:=by
 unfold dJ at hj;cases hf:(List.range h).find? (λk=> !p k)with
 |none=>
  rw[hf]at hj;have:=GP.1 hf j (ES.2 (by simpa using hj));simpa using this
 |some k=>
  rw[hf]at hj;have:=(G7.1 hf).2.2 j (by simpa using hj);simpa using this
theorem gM {p:Nat->Bool}{h:Nat}(hlt:dJ p h<h):p (dJ p h)=false:=by
 unfold dJ at hlt⊢;cases hf:(List.range h).find? (λk=> !p k)with
 |none=>rw[hf]at hlt;simp at hlt
 |some k=>
  have:=(G7.1 hf).1;simpa using this
theorem tV {d:aa}{c:Con}(hc:ConB c)(h:conR d c=0):bF d c/\rightR d c=true:=by
 unfold conR at h;split at h;·cases h
 ·split at h;·cases h
  ·rename_i hu;split at h;·cases h
   ·rename_i hr;exact⟨(sZ hc (by simpa using hu)).1,by simpa using hr⟩
theorem yR {α β:Type}{step:α->β ⊕ α}(Inv:α->Prop)(μ:α->Nat)(h: ∀x y,Inv x->step x= .inr y->Inv y/\μ y<μ x): ∀x,Inv x->∃N R,b9 step N x=some R:=by
 have key: ∀n x,μ x=n->Inv x->∃N R,b9 step N x=some R:=by
  intro n
  induction n using Nat.strongRecOn with
  |_ n ih=>
   intro x hx hi;cases e:step x with
   |inl b=>exact⟨1,b,by simp[b9,e]⟩
   |inr y=>
    obtain⟨h1,h2⟩:=h x y hi e;obtain⟨N,R,hR⟩:=ih (μ y) (hx▸h2) y Y h1;exact⟨N+1,R,by simp[b9,e,hR]⟩
 exact λx hi=>key _ x Y hi
theorem qk {α β:Type}{step:α->β ⊕ α}(Inv:α->Prop)(h: ∀x y,Inv x->step x= .inr y->Inv y): ∀(N:Nat) (x:α) (R:β),Inv x->b9 step N x=some R->∃z,Inv z/\step z= .inl R
 |0,x,R,_,e=>by cases e
 |n+1,x,R,hi,e=>by
  cases hs:step x with
  |inl b=>simp only[b9,hs,E9]at e;exact⟨x,hi,by rw[hs,e]⟩
  |inr y=>simp only[b9,hs]at e;exact qk Inv h n y R (h x y hi hs) e
theorem sh {α β:Type}{s1 s2:α->β ⊕ α}(Inv:α->Prop)(h: ∀x y,Inv x->s1 x= .inr y->Inv y)(he: ∀x,Inv x->s1 x=s2 x): ∀(N:Nat) (x:α),Inv x->b9 s1 N x=b9 s2 N x
 |0,_,_=>rfl
 |n+1,x,hi=>by
  simp only[b9,<-he x hi];cases hs:s1 x with
  |inl b=>rfl
  |inr y=>exact sh Inv h he n y (h x y hi hs)
def weight (d:aa):Nat:=(d.map λx=>(vals x).length).sum
theorem iB: ∀{d:aa} {i:Nat} {y:List (Int×Int)} (x:List (Int×Int)),d[i]? =some y->weight (d.set i x)+(vals y).length=weight d+(vals x).length
 | [],i,y,x,h=>by simp at h
 |z::d,0,y,x,h=>by
  simp at h;subst h;simp only[HL,weight,Ee,FR];omega
 |z::d,i+1,y,x,h=>by
  have:=iB (d:=d) (i:=i) x (by simpa using h);simp only[List.set_cons_succ,weight,Ee,FR]at this⊢;omega
theorem w4 {d d':List (Int×Int)}(h:aB d)(h':aB d')(hs: ∀v∈vals d',v∈vals d):(vals d').length<=(vals d).length/\(d'≠d->(vals d').length<(vals d).length):=by
 have hle:=cq (aG h') hs;refine⟨hle,λhne=>Nat.lt_of_le_of_ne hle λe=>hne ?_⟩;refine fX h' h (dX (aG h') (aG h) λv=>⟨hs v,λhv=> ?_⟩);refine F3 λhn=> ?_;have h1:(v::vals d').Nodup:=F9.2 ⟨hn,dF (aG h')⟩;have h2:(v::vals d').length<=(vals d).length:=h1.length_le_of_subset λw hw=>by
  rcases ET.1 hw with rfl|hw;·exact hv
  ·exact hs w hw
 simp at h2;omega
structure Cutd (d out:aa):Prop where
 len:out.length=d.length
 fine: ∀x∈out,Fine x
 ne: ∀x∈out,x≠[]
 sub: ∀(i:Nat) x y,out[i]? =some x->d[i]? =some y->∀v∈vals x,v∈vals y
theorem Cutd.set {d out:aa}(h:Cutd d out){i:Nat}{x y:List (Int×Int)}(hy:out[i]? =some y)(hx:aB x)(hne:x≠[])(hs: ∀v∈vals x,v∈vals y):Cutd d (out.set i x):=by
 have hym:=EC hy;refine⟨by simp[h.len],λz hz=> ?_,λz hz=> ?_,λj z w hz hw v hv=> ?_⟩
 ·rcases EV hz with hz|rfl;·exact h.fine z hz
  ·exact(h.fine y hym).cut hx hs
 ·rcases EV hz with hz|rfl;·exact h.ne z hz
  ·exact hne
 ·by_cases e:i=j
  ·subst e;have hlt:=(E8.1 hy).1;rw[Ew hlt]at hz;obtain rfl:=E7 hz;exact h.sub i y w hy hw v (hs v hv)
  ·rw[El e]at hz;exact h.sub j z w hz hw v hv
theorem rp {c:Con}{d out next:aa}(hv:bF out c)(h:Cutd d out)(hs:dG c out= .inr next):Cutd d next/\bF next c/\weight next<weight out:=by
 have hh:=eE c;unfold dG at hs;split at hs;·cases hs
 ·rename_i hk;have hkl:placeO out c<halfOf c:=(by have:=e7 (ep out c) (halfOf c);unfold placeO at hk⊢;omega);have hp:ep out c (placeO out c)=false:=gM hkl;have hv1:=hv.2 _ (ay (c:=c) (k:=placeO out c) (by omega));have hv2:=hv.2 _ (ay (c:=c) (k:=halfOf c+placeO out c) (by omega));have hab:varAt c (placeO out c)≠varAt c (halfOf c+placeO out c):=λe=>(by rw[ep,e]at hp;simp[gC]at hp);simp only at hs;generalize varAt c (placeO out c)=a at*;generalize varAt c (halfOf c+placeO out c)=b at*;have ha:=aj hv1.2;have hb:=aj hv2.2;have fa:=h.fine _ (ac hv1.2);have fb:=h.fine _ (ac hv2.2);generalize domAt out a=da at*;generalize domAt out b=db at*;obtain⟨x1,x2⟩:=bR fa.ok (-1048576) (aP db);obtain⟨y1,y2⟩:=bR fb.ok (av da) 1048576;generalize domCut da (-1048576) (aP db)=x at*;generalize domCut db (av da) 1048576=y at*;split at hs;·cases hs
  ·rename_i hne;split at hs;·cases hs
   ·rename_i hns;obtain rfl:=Sum.inr.inj hs;have hsx: ∀v∈vals x,v∈vals da:=λv hv=>((x2 v).1 hv).1;have hsy: ∀v∈vals y,v∈vals db:=λv hv=>((y2 v).1 hv).1;have hne':a.toNat≠b.toNat:=(by omega);have hb':(out.set a.toNat x)[b.toNat]? =some db:=(by rw[El hne'];exact hb);refine⟨(h.set ha x1 (λe=>hne (.inl e)) hsx).set hb' y1 (λe=>hne (.inr e)) hsy,(hv.set _ _).set _ _,?_⟩;have w1:=iB x ha;have w2:=iB y hb';have l1:=w4 fa.ok x1 hsx;have l2:=w4 fb.ok y1 hsy;by_cases e1:x=da
    ·have e2:y≠db:=λe=>hns ⟨e1,e⟩;have:=l2.2 e2;subst e1;omega
    ·have:=l1.2 e1;omega
theorem mT {c:Con}{d:aa}(hv:bF d c)(hf: ∀x∈d,Fine x): ∃R N,(if []∈d then R=none else b9 (dG c) N d=some R)/\(∀out,R=some out->Cutd d out/\dG c out= .inl (some out)):=by
 by_cases he: []∈d;·exact⟨none,0,by rw[E6 he],λout h=>by cases h⟩
 ·have h0:Cutd d d:=⟨rfl,hf,λx hx e=>he (e▸hx),λi x y hx hy v hv=>by rw[hx]at hy;exact E7 hy▸hv⟩;have hst: ∀x y,(Cutd d x/\bF x c)->dG c x= .inr y->(Cutd d y/\bF y c)/\weight y<weight x:=λx y hi hs=>by
   have:=rp hi.2 hi.1 hs;exact⟨⟨this.1,this.2.1⟩,this.2.2⟩
  obtain⟨N,R,hR⟩:=yR (step:=dG c) (λx=>Cutd d x/\bF x c) weight hst d ⟨h0,hv⟩;refine⟨R,N,by rw[E4 he];exact hR,λout h=> ?_⟩;obtain⟨z,hz,hs⟩:=qk (λx=>Cutd d x/\bF x c) (λx y hi hs=>(hst x y hi hs).1) N d R ⟨h0,hv⟩ hR;have:z=out:=by
   subst h;unfold dG at hs;split at hs;·simpa using hs
   ·simp only at hs;split at hs;·simp at hs
    ·split at hs;·simpa using hs
     ·cases hs
  subst this;rw[h]at hs;exact⟨hz.1,hs⟩
abbrev wr (n:Int):Int:=IntKind.i64.wrap n
def smallI (n:Int):Bool:=decide (-4611686018427387904<=n)&&decide (n<=4611686018427387904)
def mulI (a b:Int):Int×Bool:=if smallI a&&smallI b&&smallI (a*b)then(a*b,true)else(0,false)
def endW (d:List (Int×Int))(k:Int)(high:Bool):Int×Bool:=((mulI k (if decide (0<k)==high then aP d else av d)).1,!d.isEmpty&&(mulI k (if decide (0<k)==high then aP d else av d)).2)
def gE:List (List (Int×Int)×Int)->Int->Int->Int×Int×Bool
 | [],lo,hi=>(lo,hi,true)
 |(x,k)::ts,lo,hi=>if(endW x k false).2 then gE ts (wr (lo+(endW x k false).1)) (wr (hi+(endW x k true).1))else(0,0,false)
def af (d:aa)(vars coefs:List Int):List (List (Int×Int)×Int):=(vars.zip coefs).map λp=>(domAt d p.1,p.2)
def endsW (d:aa)(vars coefs:List Int):Int×Int×Bool:=gE (af d vars coefs) 0 0
def endR (d:List (Int×Int))(k:Int):Int×Int×Bool:=(min (wr (k*(dt d).1)) (wr (k*(dt d).2.1)),max (wr (k*(dt d).1)) (wr (k*(dt d).2.1)),(dt d).2.2)
def eI:List (List (Int×Int)×Int)->Int->Int->Int×Int×Bool
 | [],lo,hi=>(lo,hi,true)
 |(x,k)::ts,lo,hi=>if(endR x k).2.2 then eI ts (wr (lo+(endR x k).1)) (wr (hi+(endR x k).2.1))else(0,0,false)
def endsRW (d:aa)(vars coefs:List Int):Int×Int×Bool:=eI (af d vars coefs) 0 0
def cO (d:List (Int×Int))(k:Int):Int:=if 0<k then k*av d else k*aP d
def gD (d:List (Int×Int))(k:Int):Int:=if 0<k then k*aP d else k*av d
def bq (ts:List (List (Int×Int)×Int)):Int:=(ts.map λt=>cO t.1 t.2).sum
def eX (ts:List (List (Int×Int)×Int)):Int:=(ts.map λt=>gD t.1 t.2).sum
def aL (k:Int):Int:=max k (-k)
def ar (coefs:List Int):Int:=(coefs.map λk=>aL k*1048576).sum
theorem bA (k:Int):0<=aL k:=by unfold aL;omega
theorem eA (k x:Int)(h1: -1048576<=x)(h2:x<=1048576): -(aL k*1048576)<=k*x/\k*x<=aL k*1048576:=by
 unfold aL;by_cases hk:0<=k
 ·have e1:=FG h2 hk;have e2:=FG h1 hk;rw[show max k (-k)=k by omega];omega
 ·have hk':0<=-k:=(by omega);have e1:=FG h2 hk';have e2:=FG h1 hk';rw[HZ]at e1 e2;rw[show max k (-k)= -k by omega];rw[HZ]at e1 e2⊢;omega
theorem tP {d:List (Int×Int)}(h:Fine d)(hne:d≠[]): -1048576<=av d/\av d<=aP d/\aP d<=1048576:=by
 have h1:=gg h.ok hne;have h2:=qg h.ok hne;have:=h.val _ h1;have:=h.val _ h2;have:=oL h.ok h1;omega
theorem j7 {d:List (Int×Int)}(h:Fine d)(hne:d≠[])(k:Int): -(aL k*1048576)<=cO d k/\cO d k<=gD d k/\gD d k<=aL k*1048576:=by
 obtain⟨h1,h2,h3⟩:=tP h hne;have m1:=eA k (av d) h1 (by omega);have m2:=eA k (aP d) (by omega) h3;unfold cO gD;by_cases hk:0<k
 ·rw[E6 hk,E6 hk];have:=FG h2 (show 0<=k by omega);omega
 ·rw[E4 hk,E4 hk];have:=GT (show k<=0 by omega) h2;omega
def CoefOk (k:Int):Prop:=k≠0/\aL k<=4398046511104
theorem j6 {k x:Int}(hk:CoefOk k)(h1: -1048576<=x)(h2:x<=1048576):mulI k x=(k*x,true):=by
 have m:=eA k x h1 h2;have h3:=hk.2;unfold mulI smallI;have e:aL k=max k (-k):=rfl;rw[E6];simp only[EL,ER];omega
theorem oQ {d:List (Int×Int)}{k:Int}(h:Fine d)(hne:d≠[])(hk:CoefOk k):endW d k false=(cO d k,true)/\endW d k true=(gD d k,true):=by
 obtain⟨h1,h2,h3⟩:=tP h hne;have hb:d.isEmpty=false:=by cases d with
  |nil=>exact EX Y hne
  |cons r d=>rfl
 unfold endW cO gD;rw[hb];by_cases hp:0<k
 ·rw[EF hp,E6 hp,E6 hp];simp only[Bool.not_false,FV,beq_self_eq_true,if_true];rw[E4 (by decide),j6 hk h1 (by omega),j6 hk (by omega) h3];exact⟨rfl,rfl⟩
 ·rw[EE hp,E4 hp,E4 hp];simp only[Bool.not_false,FV,beq_self_eq_true,if_true];rw[E4 (by decide),j6 hk h1 (by omega),j6 hk (by omega) h3];exact⟨rfl,rfl⟩
theorem x3 (k:Int)(hk:CoefOk k)(high:Bool):endW [] k high=(0,false):=by
 unfold endW;have:mulI k 0=(0,true):=(by have:=j6 hk (x:=0) (by decide) (by decide);simpa using this);simp only[aP,av,List.getLast?_nil,ite_self,this];rfl
theorem oR {d:List (Int×Int)}{k:Int}(h:Fine d)(hne:d≠[])(hk:CoefOk k):endR d k=(cO d k,gD d k,true):=by
 obtain⟨h1,h2,h3⟩:=tP h hne;have m1:=eA k (av d) h1 (by omega);have m2:=eA k (aP d) (by omega) h3;have h4:=hk.2;unfold endR wr;rw[qC h.ok hne];simp only;rw[ae (by omega) (by omega),ae (by omega) (by omega)];unfold cO gD;by_cases hp:0<k
 ·rw[E6 hp,E6 hp];have:=FG h2 (show 0<=k by omega);rw[show min (k*av d) (k*aP d)=k*av d by omega,show max (k*av d) (k*aP d)=k*aP d by omega]
 ·rw[E4 hp,E4 hp];have:=GT (show k<=0 by omega) h2;rw[show min (k*av d) (k*aP d)=k*aP d by omega,show max (k*av d) (k*aP d)=k*av d by omega]
theorem x4 (k:Int):(endR [] k).2.2=false:=rfl
def eQ (ts:List (List (Int×Int)×Int)):Prop:= ∀t∈ts,Fine t.1/\CoefOk t.2
def aV (ts:List (List (Int×Int)×Int)):Int:=ar (ts.map (·.2))
theorem cg (t:List (Int×Int)×Int)(ts):aV (t::ts)=aL t.2*1048576+aV ts:=by simp[aV,ar]
theorem c8: ∀ts,0<=aV ts
 | []=>by simp[aV,ar]
 |t::ts=>by
  rw[cg];have:=c8 ts;have:=bA t.2;omega
theorem lI: ∀{ts:List (List (Int×Int)×Int)},eQ ts->(∀t∈ts,t.1≠[])->-aV ts<=bq ts/\bq ts<=eX ts/\eX ts<=aV ts
 | [],_,_=>by simp[aV,ar,bq,eX]
 |t::ts,h,hne=>by
  obtain⟨h1,h2,h3⟩:=lI (ts:=ts) (λt ht=>h t (.tail _ ht)) (λt ht=>hne t (.tail _ ht));obtain⟨h4,h5,h6⟩:=j7 (h t (.head _)).1 (hne t (.head _)) t.2;rw[cg];simp only[bq,eX,Ee,FR]at h1 h2 h3⊢;omega
theorem ix: ∀{ts:List (List (Int×Int)×Int)} (lo hi:Int),eQ ts->(∀t∈ts,t.1≠[])->-4611686018427388928<=lo-aV ts->lo+aV ts<=4611686018427388928->-4611686018427388928<=hi-aV ts->hi+aV ts<=4611686018427388928->gE ts lo hi=(lo+bq ts,hi+eX ts,true)
 | [],lo,hi,_,_,_,_,_,_=>by simp[gE,bq,eX]
 |(x,k)::ts,lo,hi,h,hne,h1,h2,h3,h4=>by
  obtain⟨hf,hk⟩:=h _ (.head _);have hx:=hne _ (.head _);obtain⟨e1,e2⟩:=oQ hf hx hk;obtain⟨b1,b2,b3⟩:=j7 hf hx k;have hp:=c8 ts;rw[cg]at h1 h2 h3 h4;simp only at h1 h2 h3 h4 e1 e2 b1 b2 b3;rw[gE,e1,e2,E6 Y];simp only[wr];rw[ae (by omega) (by omega),ae (by omega) (by omega),ix _ _ (λt ht=>h t (.tail _ ht)) (λt ht=>hne t (.tail _ ht)) (by omega) (by omega) (by omega) (by omega)];simp only[bq,eX,Ee,FR,Prod.mk.injEq,and_true];omega
theorem qD: ∀{ts:List (List (Int×Int)×Int)} (lo hi:Int),eQ ts->(∀t∈ts,t.1≠[])->-4611686018427388928<=lo-aV ts->lo+aV ts<=4611686018427388928->-4611686018427388928<=hi-aV ts->hi+aV ts<=4611686018427388928->eI ts lo hi=(lo+bq ts,hi+eX ts,true)
 | [],lo,hi,_,_,_,_,_,_=>by simp[eI,bq,eX]
 |(x,k)::ts,lo,hi,h,hne,h1,h2,h3,h4=>by
  obtain⟨hf,hk⟩:=h _ (.head _);have hx:=hne _ (.head _);have e1:=oR hf hx hk;obtain⟨b1,b2,b3⟩:=j7 hf hx k;have hp:=c8 ts;rw[cg]at h1 h2 h3 h4;simp only at h1 h2 h3 h4 e1 b1 b2 b3;rw[eI,e1,E6 Y];simp only[wr];rw[ae (by omega) (by omega),ae (by omega) (by omega),qD _ _ (λt ht=>h t (.tail _ ht)) (λt ht=>hne t (.tail _ ht)) (by omega) (by omega) (by omega) (by omega)];simp only[bq,eX,Ee,FR,Prod.mk.injEq,and_true];omega
theorem mA: ∀{ts:List (List (Int×Int)×Int)} (lo hi:Int),eQ ts->(∃t∈ts,t.1=[])->gE ts lo hi=(0,0,false)/\eI ts lo hi=(0,0,false)
 | [],lo,hi,_,h=>by obtain⟨t,ht,_⟩:=h;cases ht
 |(x,k)::ts,lo,hi,h,he=>by
  obtain⟨hf,hk⟩:=h _ (.head _);by_cases hx:x=[]
  ·subst hx;rw[gE,eI,x3 k hk,x4];exact⟨rfl,rfl⟩
  ·obtain⟨e1,e2⟩:=oQ hf hx hk;have e3:=oR hf hx hk;simp only at e1 e2 e3;rw[gE,eI,e1,e2,e3,E6 Y,E6 Y];refine mA _ _ (λt ht=>h t (.tail _ ht)) ?_;obtain⟨t,ht,e⟩:=he;cases ht with
   |head=>exact EX e hx
   |tail _ ht=>exact⟨t,ht,e⟩
theorem Al {ts:List (List (Int×Int)×Int)}(h:eQ ts)(hw:aV ts<=4611686018427388928):gE ts 0 0=eI ts 0 0:=by
 by_cases he: ∃t∈ts,t.1=[]
 ·obtain⟨h1,h2⟩:=mA 0 0 h he;rw[h1,h2]
 ·have hne: ∀t∈ts,t.1≠[]:=λt ht e=>he ⟨t,ht,e⟩;rw[ix 0 0 h hne (by omega) (by omega) (by omega) (by omega),qD 0 0 h hne (by omega) (by omega) (by omega) (by omega)]
theorem gQ (l:List Int)(hl:l.length*8<=140737488355328):Spec Tryz.prog 152 false [aq l] [.val (.bool (l.all smallI))]:=by
 refine Spec.body Tryz.func152 Y Y Y λw0 Z0=> ?_;refine .B ?_;refine T.K (T.ind (λi:Nat=>⟨[(5,.val false (aq l)),(6,.val true (.int .i64 (l.map cI).length)),(7,.val true (.int .i64 i))],[],0⟩) (λi=>i<=l.length/\(l.take i).all smallI=true) (λi=>l.length-i) 0 (by simp) (λ_ _ h=>h) ?_);rintro i ⟨hi,hd⟩ ih;refine .B ?_;refine T.cd Y (λh1=> ?_) (λh1=> ?_)
 ·have h1:i<l.length:=(by simpa using h1);have hno:smallI l[i]=false->l.all smallI=false:=λh=>by
   cases h2:l.all smallI with
   |false=>rfl
   |true=>rw[EN.1 h2 _ (EA h1)]at h;cases h
  refine .B ?_;refine .F (r:=cI l[i]) (aA h1) ?_;refine J.g Y Y Y (λh2=> ?_) (λh2=> ?_)
  ·refine .B ?_;refine T.ct Y ?_;refine .B ?_;exact⟨_,.v Y Y (by rw[hno];simp[smallI];omega) (λ_=>rfl) .nil⟩
  ·refine .B ?_;refine T.cd Y (λh3=> ?_) (λh3=> ?_)
   ·refine .B ?_;exact⟨_,.v Y Y (by rw[hno];simp[smallI];omega) (λ_=>rfl) .nil⟩
   ·refine .B ?_;rw[ai (l:=l.length) (by omega) (by omega)];refine T.K (ih (i+1) ⟨by omega,?_⟩ (by omega));rw[ED h1,Fm,hd];simp[smallI];omega
 ·have h1:i=l.length:=(by simp at h1;omega);subst h1;rw[Ej]at hd;refine .B ?_;exact⟨_,.v Y Y (by rw[hd]) (λ_=>rfl) .nil⟩
theorem rc (n:Int):IntKind.u64.wrap n=n % 18446744073709551616:=by simp[IntKind.wrap,IntKind.bits,IntKind.signed]
theorem qm (n:Int)(h: -9223372036854775808<=n)(h2:n<=9223372036854775807):Spec Tryz.prog 154 false [.int .i64 n] [.val (.int .u64 ((n.natAbs:Nat):Int))]:=by
 refine Spec.body Tryz.func154 Y Y Y λw0 Z0=> ?_;refine .B ?_;refine T.cd Y (λh3=> ?_) (λh3=> ?_)
 ·have h3:n<0:=h3;refine .B ?_;exact⟨_,.v Y Y (by rw[rc,rc];congr 1;omega) (λ_=>rfl) .nil⟩
 ·have h3: ¬n<0:=h3;refine .B ?_;exact⟨_,.v Y Y (by rw[rc];congr 1;omega) (λ_=>rfl) .nil⟩
theorem Bt (a:Nat)(ha:a<18446744073709551616):IntKind.u64.wrap (BitVec.ofInt IntKind.u64.bits (a:Int) &&& BitVec.ofInt IntKind.u64.bits 4294967295).toNat=((a % 4294967296:Nat):Int):=by
 have e:(BitVec.ofInt IntKind.u64.bits (a:Int) &&& BitVec.ofInt IntKind.u64.bits 4294967295).toNat=a % 4294967296:=by
  rw[BitVec.toNat_and];have e1:(BitVec.ofInt IntKind.u64.bits (a:Int)).toNat=a:=by
   rw[BitVec.toNat_ofInt];have:((2 ^ IntKind.u64.bits:Nat):Int)=18446744073709551616:=rfl;rw[this];omega
  have e2:(BitVec.ofInt IntKind.u64.bits 4294967295).toNat=2 ^ 32-1:=rfl;rw[e1,e2,Nat.and_two_pow_sub_one_eq_mod]
 rw[e,rc];omega
theorem D5 (a:Nat):((a:Int)).fdiv (2 ^ (min (32:Int).toNat IntKind.u64.bits))=((a / 4294967296:Nat):Int):=by
 have:(2:Int) ^ (min (32:Int).toNat IntKind.u64.bits)=4294967296:=rfl;rw[this,Int.fdiv_eq_ediv_of_nonneg _ (by decide)];omega
theorem DJ (a b:Nat):(a:Int)*(b:Int)=((a*b:Nat):Int):=(I7 a b).symm
theorem D4 (a b:Nat):(a:Int)+(b:Int)=((a+b:Nat):Int):=(Int.natCast_add a b).symm
theorem nC (a:Nat)(ha:a<18446744073709551616):IntKind.u64.wrap (a:Int)=(a:Int):=by rw[rc];omega
theorem Dr (a:Nat):IntKind.u64.wrap (a:Int)=((a % 18446744073709551616:Nat):Int):=by rw[rc];omega
theorem xH (x y:Nat)(hx:x<18446744073709551616)(hy:y<18446744073709551616):Spec Tryz.prog 153 false [.int .u64 (x:Int),.int .u64 (y:Int)] [.val (.int .u64 ((x*y / 18446744073709551616:Nat):Int)),.val (.int .u64 ((x*y % 18446744073709551616:Nat):Int))]:=by
 obtain⟨bd,bt,bw,hhi⟩:=Lib.mul64_hi x y hx hy;have ba:=Lib.half_mul_le (a:=x / 4294967296) (b:=y / 4294967296) (by omega) (by omega);have bb:=Lib.half_mul_le (a:=x / 4294967296) (b:=y % 4294967296) (by omega) (by omega);have bc:=Lib.half_mul_le (a:=x % 4294967296) (b:=y / 4294967296) (by omega) (by omega);have ba':x / 4294967296*(y / 4294967296)<18446744073709551616:=(by omega);have bb':x / 4294967296*(y % 4294967296)<18446744073709551616:=(by omega);have bc':x % 4294967296*(y / 4294967296)<18446744073709551616:=(by omega);have bh1:x / 4294967296*(y / 4294967296)+(x / 4294967296*(y % 4294967296)+x % 4294967296*(y % 4294967296) / 4294967296) / 4294967296<18446744073709551616:=(by omega);have bh:x / 4294967296*(y / 4294967296)+(x / 4294967296*(y % 4294967296)+x % 4294967296*(y % 4294967296) / 4294967296) / 4294967296+((x / 4294967296*(y % 4294967296)+x % 4294967296*(y % 4294967296) / 4294967296) % 4294967296+x % 4294967296*(y / 4294967296)) / 4294967296<18446744073709551616:=by
  generalize (x / 4294967296)*(y / 4294967296)=a at*;generalize (x / 4294967296)*(y % 4294967296)=b at*;generalize (x % 4294967296)*(y / 4294967296)=c at*;generalize (x % 4294967296)*(y % 4294967296)=d at*;omega
 refine Spec.body Tryz.func153 Y Y Y λw0 Z0=> ?_;refine .B ?_;refine⟨_,.v Y Y ?_ (λ_=>rfl) (.v Y Y ?_ (λ_=>rfl) .nil)⟩
 ·simp only[Bt x hx,Bt y hy,D5,DJ,D4,nC _ bd,nC _ bb',nC _ bt,Bt _ bt,nC _ bc',nC _ bw,nC _ ba',nC _ bh1,nC _ bh];rw[hhi]
 ·rw[DJ,Dr]
theorem np (a b:Int)(ha1: -9223372036854775808<=a)(ha2:a<=9223372036854775807)(hb1: -9223372036854775808<=b)(hb2:b<=9223372036854775807):
  Spec Tryz.prog 120 false [.int .i64 a,.int .i64 b] [.val (.int .i64 (mulI a b).1),.val (.bool (mulI a b).2)]:=by
 refine Spec.body Tryz.func120 Y Y Y λw0 Z0=> ?_;have hs:=gQ [a,b] (by simp);refine .B ?_;refine .V ?_;refine .D hs ?_;refine T.cond Y (λh=> ?_) (λh=> ?_)
 ·have e:mulI a b=(0,false):=by
   unfold mulI;rw[E4];intro h2;simp at h h2;rcases h with h|h;·rw[h2.1.1]at h;cases h
   ·rw[h2.1.2]at h;cases h
  rw[e];refine .B ?_;exact r2
 ·have hsa:smallI a=true/\smallI b=true:=(by simpa using h);obtain⟨hsa,hsb⟩:=hsa;have ha: -4611686018427387904<=a/\a<=4611686018427387904:=(by simpa[smallI]using hsa);have hb: -4611686018427387904<=b/\b<=4611686018427387904:=(by simpa[smallI]using hsb);have hm:=xH a.natAbs b.natAbs (by omega) (by omega);have hab:(a*b).natAbs=a.natAbs*b.natAbs:=Int.natAbs_mul a b;have hp1:(a<0)≠(b<0)->a*b<=0:=by
   intro hne;by_cases h1:a<0
   ·have h2: ¬b<0:=λh2=>hne (by simp[h1,h2]);exact Int.mul_nonpos_of_nonpos_of_nonneg (by omega) (by omega)
   ·have h2:b<0:=by
     by_cases h2:b<0;·exact h2
     ·exact EX (by simp[h1,h2]) hne
    exact Int.mul_nonpos_of_nonneg_of_nonpos (by omega) (by omega)
  have hp2:(a<0)=(b<0)->0<=a*b:=by
   intro heq;by_cases h1:a<0
   ·have h2:b<0:=(by rw[<-heq];exact h1);exact Int.mul_nonneg_of_nonpos_of_nonpos (by omega) (by omega)
   ·have h2: ¬b<0:=(by rw[<-heq];exact h1);exact Int.mul_nonneg (by omega) (by omega)
  have hmi:mulI a b=if smallI (a*b)then(a*b,true)else(0,false):=by simp[mulI,hsa,hsb]
  rw[hmi];rw[<-hab]at hm;clear hab hmi;generalize a*b=p at*;refine .B ?_;refine .D (qm a ha1 ha2) ?_;refine .C (qm b hb1 hb2) ?_;refine .D hm ?_;refine J.g Y Y Y (λh4=> ?_) (λh4=> ?_)
  ·have h4:((p.natAbs / 18446744073709551616:Nat):Int)≠0:=h4;refine .B ?_;refine T.ct Y ?_;have e:smallI p=false:=(by simp[smallI];omega);rw[e];refine .B ?_;exact r2
  ·have h4: ¬((p.natAbs / 18446744073709551616:Nat):Int)≠0:=h4;refine .B ?_;refine T.cd Y (λh5=> ?_) (λh5=> ?_)
   ·have h5:((p.natAbs % 18446744073709551616:Nat):Int) > 4611686018427387904:=h5;have e:smallI p=false:=(by simp[smallI];omega);rw[e];refine .B ?_;exact r2
   ·have h5: ¬((p.natAbs % 18446744073709551616:Nat):Int) > 4611686018427387904:=h5;have e:smallI p=true:=(by simp[smallI];omega);rw[e];refine .B ?_;refine T.cond Y (λh6=> ?_) (λh6=> ?_)
    ·have h7:=hp1 (by intro e;simp[e]at h6);refine .B ?_;exact⟨_,.v Y Y (by simp only[if_true];rw[ae (n:=((p.natAbs % 18446744073709551616:Nat):Int)) (by omega) (by omega),ae (by omega) (by omega)];congr 1;omega) (λ_=>rfl) (.v Y Y Y (λ_=>rfl) .nil)⟩
    ·have h7:=hp2 (by
      by_cases h1:a<0<;>by_cases h2:b<0<;>simp[h1,h2]at h6⊢)
     refine .B ?_;exact⟨_,.v Y Y (by simp only[if_true];rw[ae (by omega) (by omega)];congr 1;omega) (λ_=>rfl) (.v Y Y Y (λ_=>rfl) .nil)⟩
theorem BS {d:List (Int×Int)}(h:InB d): -1048576<=av d/\av d<=1048576/\-1048576<=aP d/\aP d<=1048576:=by
 constructor
 ·cases d with
  |nil=>simp[av]
  |cons r d=>exact(h r (.head _)).1
 ·constructor
  ·cases d with
   |nil=>simp[av]
   |cons r d=>exact(h r (.head _)).2.1
  ·unfold aP;cases hl:d.getLast? with
   |none=>simp
   |some r=>
    have:=h r (HY hl);exact⟨this.2.2.1,this.2.2.2⟩
theorem fI {k:Int}(h:CoefOk k): -4398046511104<=k/\k<=4398046511104:=by
 have:=h.2;unfold aL at this;omega
theorem j9 (d:List (Int×Int))(k:Int)(high:Bool)(hd:DomB d)(hk:CoefOk k):Spec Tryz.prog 233 false [dm d,.int .i64 k,.bool high] [.val (.int .i64 (endW d k high).1),.val (.bool (endW d k high).2)]:=by
 refine Spec.body Tryz.func233 Y Y Y λw0 Z0=> ?_;obtain⟨h1,h2,h3,h4⟩:=BS hd.1;have hk2:=fI hk;refine T.seq ?_;refine T.r ?_
 repeat' first|refine J.e Y Y Y Y ?_|refine J.skip Y Y Y ?_|refine J.bx Y Y Y Y Y Y ?_
 refine J.nil ?_;refine T.seq ?_;refine T.r ?_
 repeat' first|refine J.e Y Y Y Y ?_|refine J.skip Y Y Y ?_|refine J.bx Y Y Y Y Y Y ?_
 refine .C (ly d) ?_
 repeat' first|refine J.e Y Y Y Y ?_|refine J.skip Y Y Y ?_|refine J.bx Y Y Y Y Y Y ?_
 refine J.nil ?_;refine T.mid ⟨[(1,.val false (.int .i64 k)),(8,.val true (.int .i64 (if decide (0<k)==high then aP d else av d))),(9,.val true (.bool (!d.isEmpty)))],[],0⟩ ?_ ?_
 ·refine .B ?_;refine T.cond Y (λh=> ?_) (λh=> ?_)
  ·have h:(decide (0<k)==high)=true:=h;rw[E6 h];refine .B ?_;refine .D (rS d (by have:=hd.2.2;omega)) ?_;exact⟨rfl,[1,8,9],[],rfl,rfl⟩
  ·have h:(decide (0<k)==high)=false:=h;rw[h];refine .B ?_;exact⟨rfl,[1,8,9],[],rfl,rfl⟩
 ·have hm:=np k (if decide (0<k)==high then aP d else av d) (by omega) (by omega) (by split<;>omega) (by split<;>omega);unfold endW;generalize (if decide (0<k)==high then aP d else av d)=x at*;generalize mulI k x=m at*;refine .B ?_;refine .D hm ?_;refine J.gb Y Y Y (λh=> ?_) (λh=> ?_)
  ·rw[h];refine .B ?_;exact⟨_,.v Y Y Y (λ_=>rfl) (.v Y Y (by simp) (λ_=>rfl) .nil)⟩
  ·rw[h];refine .B ?_;exact r2
structure SumIn (d:aa)(vars coefs:List Int):Prop where
 len:vars.length=coefs.length
 vl:vars.length*8<=140737488355328
 vin: ∀v∈vars,0<=v/\v.toNat<d.length
 ck: ∀k∈coefs,CoefOk k
 dom: ∀x∈d,DomB x
 dl:d.length*24<=140737488355328
theorem gj {d:aa}{vars coefs:List Int}{i:Nat}(h1:i<vars.length)(h2:i<coefs.length):(af d vars coefs).drop i=(domAt d vars[i],coefs[i])::(af d vars coefs).drop (i+1):=by
 have hl:i<(af d vars coefs).length:=(by simp[af];omega);rw[EQ hl];simp[af]
theorem ib {d:aa}{vars coefs:List Int}(h:vars.length=coefs.length):(af d vars coefs).drop vars.length=[]:=by
 refine FW ?_;simp[af];omega
theorem qf (d:aa)(vars coefs:List Int)(h:SumIn d vars coefs):Spec Tryz.prog 234 false [ak d,aq vars,aq coefs] [.val (.int .i64 (endsW d vars coefs).1),.val (.int .i64 (endsW d vars coefs).2.1),.val (.bool (endsW d vars coefs).2.2)]:=by
 refine Spec.body Tryz.func234 Y Y Y λw0 Z0=> ?_;obtain⟨hlen,hvl,hvin,hck,hdom,hdl⟩:=h;refine .B ?_;refine T.K (T.ind (λs:Nat×Int×Int=>⟨[(0,.val false (ak d)),(2,.val false (aq coefs)),(9,.val true (.int .i64 s.2.1)),(10,.val true (.int .i64 s.2.2)),(17,.val false (aq vars)),(18,.val true (.int .i64 (vars.map cI).length)),(19,.val true (.int .i64 s.1))],[],0⟩)
  (λs=>s.1<=vars.length/\gE ((af d vars coefs).drop s.1) s.2.1 s.2.2=endsW d vars coefs) (λs=>vars.length-s.1) (0,0,0) ⟨by simp,rfl⟩ (λ_ _ h=>h) ?_)
 rintro⟨i,lo,hi⟩ ⟨hil,he⟩ ih;simp only at hil he;dsimp only;refine .B ?_;refine T.cd Y (λh1=> ?_) (λh1=> ?_)
 ·have h1:i<vars.length:=(by simpa using h1);have h2:i<coefs.length:=(by omega);have hv:=hvin _ (EA h1);have hk:=hck _ (EA h2);have hx:=hdom _ (ac hv.2);have hrow:(d.map cD)[vars[i].toNat]? =some (cD (domAt d vars[i])):=(by simp[aj hv.2]);rw[gj h1 h2,gE]at he;refine .B ?_;refine .F (r:=cI vars[i]) (aA h1) ?_;refine J.i Y Y Y Y Y Y Y Y Y (r:=cD (domAt d vars[i])) hv.1 hrow Y ?_;refine .B ?_;refine .F (r:=cI coefs[i]) (aA h2) ?_;refine J.cc Y Y Y Y Y (j9 _ _ false hx hk) Y Y ?_;refine .B ?_;refine J.i Y Y Y Y Y Y Y Y Y (r:=cD (domAt d vars[i])) hv.1 hrow Y ?_;refine .B ?_;refine .F (r:=cI coefs[i]) (aA h2) ?_;refine J.cc Y Y Y Y Y (j9 _ _ true hx hk) Y Y ?_;generalize endW (domAt d vars[i]) coefs[i] false=e1 at*;generalize endW (domAt d vars[i]) coefs[i] true=e2 at*;obtain⟨n1,b1⟩:=e1;refine .B ?_;cases b1
  ·simp only[F5,if_false]at he;refine .B ?_;refine T.ct Y ?_;refine .B ?_;exact⟨_,.v Y Y (by rw[<-he]) (λ_=>rfl) (.v Y Y (by rw[<-he]) (λ_=>rfl) (.v Y Y (by rw[<-he]) (λ_=>rfl) .nil))⟩
  ·simp only[if_true]at he;refine .B ?_;refine T.cf Y ?_;refine .B ?_;rw[ai (l:=vars.length) (by omega) (by omega)];exact T.K (ih (i+1,wr (lo+n1),wr (hi+e2.1)) ⟨by simp only;omega,he⟩ (by simp only;omega))
 ·have h1:i=vars.length:=(by simp at h1;omega);subst h1;rw[ib hlen]at he;refine .B ?_;exact⟨_,.v Y Y (by rw[<-he];rfl) (λ_=>rfl) (.v Y Y (by rw[<-he];rfl) (λ_=>rfl) (.v Y Y (by rw[<-he];rfl) (λ_=>rfl) .nil))⟩
theorem rD (d:List (Int×Int))(k:Int)(hd:DomB d):Spec Tryz.prog 236 false [dm d,.int .i64 k] [.val (.int .i64 (endR d k).1),.val (.int .i64 (endR d k).2.1),.val (.bool (endR d k).2.2)]:=by
 refine Spec.body Tryz.func236 Y Y Y λw0 Z0=> ?_;refine .B ?_;refine .D (nw d hd) ?_;exact⟨_,.v Y Y Y (λ_=>rfl) (.v Y Y Y (λ_=>rfl) (.v Y Y Y (λ_=>rfl) .nil))⟩
theorem xi (d:aa)(vars coefs:List Int)(h:SumIn d vars coefs):Spec Tryz.prog 243 false [ak d,aq vars,aq coefs] [.val (.int .i64 (endsRW d vars coefs).1),.val (.int .i64 (endsRW d vars coefs).2.1),.val (.bool (endsRW d vars coefs).2.2)]:=by
 refine Spec.body Tryz.func243 Y Y Y λw0 Z0=> ?_;obtain⟨hlen,hvl,hvin,hck,hdom,hdl⟩:=h;refine .B ?_;refine T.K (T.ind (λs:Nat×Int×Int=>⟨[(0,.val false (ak d)),(1,.val false (aq vars)),(2,.val false (aq coefs)),(9,.val true (.int .i64 s.2.1)),(10,.val true (.int .i64 s.2.2)),(11,.val true (.int .i64 s.1))],[],0⟩)
  (λs=>s.1<=vars.length/\eI ((af d vars coefs).drop s.1) s.2.1 s.2.2=endsRW d vars coefs) (λs=>vars.length-s.1) (0,0,0) ⟨by simp,rfl⟩ (λ_ _ h=>h) ?_)
 rintro⟨i,lo,hi⟩ ⟨hil,he⟩ ih;simp only at hil he;dsimp only;refine .B ?_;refine T.cd Y (λh1=> ?_) (λh1=> ?_)
 ·have h1:i<vars.length:=(by simpa using h1);have h2:i<coefs.length:=(by omega);have hv:=hvin _ (EA h1);have hx:=hdom _ (ac hv.2);have hrow:(d.map cD)[vars[i].toNat]? =some (cD (domAt d vars[i])):=(by simp[aj hv.2]);rw[gj h1 h2,eI]at he;refine .B ?_;refine .F (r:=cI vars[i]) (aA h1) ?_;refine J.i Y Y Y Y Y Y Y Y Y (r:=cD (domAt d vars[i])) hv.1 hrow Y ?_;refine .B ?_;refine .F (r:=cI coefs[i]) (aA h2) ?_;refine J.cc Y Y Y Y Y (rD _ coefs[i] hx) Y Y ?_;generalize endR (domAt d vars[i]) coefs[i]=e1 at*;obtain⟨n1,n2,b1⟩:=e1;cases b1
  ·simp only[F5,if_false]at he;refine .B ?_;refine T.ct Y ?_;refine .B ?_;exact⟨_,.v Y Y (by rw[<-he]) (λ_=>rfl) (.v Y Y (by rw[<-he]) (λ_=>rfl) (.v Y Y (by rw[<-he]) (λ_=>rfl) .nil))⟩
  ·simp only[if_true]at he;refine .B ?_;refine T.cf Y ?_;refine .B ?_;rw[ai (l:=vars.length) (by omega) (by omega)];exact T.K (ih (i+1,wr (lo+n1),wr (hi+n2)) ⟨by simp only;omega,he⟩ (by simp only;omega))
 ·have h1:i=vars.length:=(by simp at h1;omega);subst h1;rw[ib hlen]at he;refine .B ?_;exact⟨_,.v Y Y (by rw[<-he];rfl) (λ_=>rfl) (.v Y Y (by rw[<-he];rfl) (λ_=>rfl) (.v Y Y (by rw[<-he];rfl) (λ_=>rfl) .nil))⟩
theorem zV (d:aa)(hl:d.length*24<=140737488355328)(hx: ∀x∈d,x.length*16<=140737488355328):Spec Tryz.prog 199 false [ak d] [.own 54 1 ((if []∈d then []else d).map cD),.val (.bool (!decide ([]∈d)))]:=by
 refine Spec.body Tryz.func199 Y Y Y λw0 Z0=> ?_;refine .B ?_;refine T.sub (Rel.own0 (s:=4) 54 1 Y) ?_;refine T.K (T.listI d (λpre=>[]∉pre) (λn pre post=>⟨[(4,.ref 0),(7,.val false (ak d)),(8,.val true (.int .i64 (d.map cD).length)),(9,.val true (.int .i64 n))],[(0,some (.sl 54 1 true (pre.map cD)))],1⟩) (λ_ _ h=>h) (by simp) ?_ ?_)
 ·rintro n pre x post h hn hi ih;have hlt:=bW h hn;have hxl:=hx x (by rw[h];simp);refine .B ?_;refine T.ct2 Y (bV h hn) ?_;refine .B ?_;refine .F (r:=cD x) (aM h hn) ?_;refine T.cd Y (λh1=> ?_) (λh1=> ?_)
  ·have hx:x=[]:=(by simp at h1;exact h1);have hm: []∈d:=(by rw[h,hx];simp);rw[E6 hm,EF hm];refine .B ?_;exact⟨_,.ownN Y (.v Y Y Y (λ_=>rfl) .nil)⟩
  ·have hx:x≠[]:=λe=>h1 (by rw[e];rfl);refine .B ?_;refine .D (bT x (by omega)).frz ?_;refine .Z ?_;refine J.aD Y Y Y Y Y Y Y Y Y Y Y Y Y Y Y Y Y Y Y (by omega) ?_;refine .B ?_;rw[ai hlt (by omega)];exact T.K (ih (by simp[hi,Ne.symm hx]))
 ·intro hi;refine .B ?_;refine T.cf2 Y bj ?_;refine .B ?_;exact⟨_,.o Y Y (by rw[E4 hi]) (λ_=> .inl Y) (by simp) (.v rfl rfl (by simp[hi]) (λ_=>rfl) .nil)⟩
def gZ (a b:Int):Int:=if a.tmod b<0 then wr (wr (a.tdiv b)-1)else wr (a.tdiv b)
theorem qw (a b:Int)(hb:b≠0):Spec Tryz.prog 235 false [.int .i64 a,.int .i64 b] [.val (.int .i64 (gZ a b))]:=by
 refine Spec.body Tryz.func235 Y Y Y λw0 Z0=> ?_;unfold gZ;refine .B ?_;refine J.qu Y Y Y Y Y Y hb ?_;refine .B ?_;refine J.rm Y Y Y Y Y Y hb ?_;refine .B ?_;refine T.cd Y (λh=> ?_) (λh=> ?_)
 ·have h:a.tmod b<0:=h;refine .B ?_;exact⟨_,.v Y Y (by rw[E6 h]) (λ_=>rfl) .nil⟩
 ·have h: ¬a.tmod b<0:=h;refine .B ?_;exact⟨_,.v Y Y (by rw[E4 h]) (λ_=>rfl) .nil⟩
def aw (l:List Int):List Int:=l.map λk=>wr (0-k)
theorem l6 (l:List Int)(hl:l.length*8<=140737488355328):Spec Tryz.prog 201 false [aq l] [.own 3 1 ((aw l).map cI)]:=by
 refine Spec.body Tryz.func201 Y Y Y λw0 Z0=> ?_;refine .B ?_;refine T.sub (Rel.own0 (s:=3) 3 1 Y) ?_;refine T.K (T.list l (λn pre post=>⟨[(3,.ref 0),(6,.val false (aq l)),(7,.val true (.int .i64 (l.map cI).length)),(8,.val true (.int .i64 n))],[(0,some (.sl 3 1 true ((aw pre).map cI)))],1⟩) (λ_ _ h=>h) ?_ ?_)
 ·rintro n pre x post h hn ih;have hlt:=bW h hn;refine .B ?_;refine T.ct2 Y (bV h hn) ?_;refine .B ?_;refine .F (r:=cI x) (aM h hn) ?_;refine .V ?_;refine J.aI Y Y Y Y Y Y Y Y Y Y Y Y Y Y Y Y Y Y Y (by simp[aw];omega) ?_;refine .B ?_;rw[ai hlt (by omega),show aw pre++[IntKind.i64.wrap (0-x)]=aw (pre++[x])by simp[aw]];exact T.K ih
 ·refine .B ?_;refine T.cf2 Y bj ?_;refine .B ?_;exact⟨_,.o Y Y Y (λ_=> .inl Y) (by simp) .nil⟩
theorem lP (l:List Int)(hl:l.length*8<=140737488355328):Spec Tryz.prog 206 false [aq l] [.own 3 1 ((aw l).map cI)]:=by
 refine Spec.body Tryz.func206 Y Y Y λw0 Z0=> ?_;refine .B ?_;refine .Q ?_;refine T.K (T.list l (λn pre post=>⟨[(0,.val false (aq l)),(3,.ref 0),(4,.val true (.int .i64 n))],[(0,some (.sl 3 1 true ((aw pre).map cI)))],1⟩) (λ_ _ h=>h) ?_ ?_)
 ·rintro n pre x post h hn ih;have hlt:=bW h hn;refine .B ?_;refine T.ct2 Y (bV h hn) ?_;refine .B ?_;refine .F (r:=cI x) (aM h hn) ?_;refine .V ?_;refine J.aI Y Y Y Y Y Y Y Y Y Y Y Y Y Y Y Y Y Y Y (by simp[aw];omega) ?_;refine .B ?_;rw[ai hlt (by omega),show aw pre++[IntKind.i64.wrap (0-x)]=aw (pre++[x])by simp[aw]];exact T.K ih
 ·refine .B ?_;refine T.cf2 Y bj ?_;refine .B ?_;exact⟨_,.o Y Y Y (λ_=> .inl Y) (by simp) .nil⟩
theorem ee (l:List Int)(hl:l.length*8<=140737488355328):Spec Tryz.prog 79 false [aq l] [.own 3 1 (l.map cI)]:=by
 refine Spec.body Tryz.func79 Y Y Y λw0 Z0=> ?_;refine .B ?_;refine J.nc Y Y Y Y Y Y Y λb hb=> ?_;refine .B ?_;cases b
 ·refine T.cf Y ?_;refine .B ?_;refine .Q ?_;refine J.a Y Y Y Y Y Y Y Y Y Y Y Y Y Y Y Y Y jE (by show(0+List.length _)*8<=_;simp;omega) ?_;refine .B ?_;exact⟨_,.o Y Y Y (λ_=> .inr xW) (by simp) .nil⟩
 ·have:l=[]:=(by simpa using hb Y);subst this;refine T.ct Y ?_;refine .B ?_;exact⟨_,.ownN Y .nil⟩
theorem jV (d:aa)(hl:d.length*8<=140737488355328):Spec Tryz.prog 203 true [ak d] ([ak (if []∈d then []else d),.bool (!decide ([]∈d))].map .val):=by
 refine Spec.body Tryz.func203 Y Y Y λw0 Z0=> ?_;refine .B ?_;refine .D (dN d hl) ?_;by_cases hm: []∈d
 ·rw[E6 hm,EF hm];refine T.ct Y ?_;refine .B ?_;exact⟨_,.v Y Y Y (λh=>by cases h) (.v rfl rfl rfl (λh=>by cases h) .nil)⟩
 ·rw[E4 hm,EE hm];refine T.cf Y ?_;refine .B ?_;exact⟨_,.v Y Y Y (λh=>by cases h) (.v rfl rfl rfl (λh=>by cases h) .nil)⟩
def gp (d:List (Int×Int)):Int:=d.foldl (λn r=>wr (n+wr (wr (r.2-r.1)+1))) 0
theorem ig (d:List (Int×Int))(hl:d.length*8<=140737488355328):Spec Tryz.prog 109 false [dm d] [.val (.int .i64 (gp d))]:=by
 refine Spec.body Tryz.func109 Y Y Y λw0 Z0=> ?_;refine .B ?_;refine T.K (T.list d (λn pre post=>⟨[(3,.val true (.int .i64 (gp pre))),(6,.val false (dm d)),(7,.val true (.int .i64 (d.map cR).length)),(8,.val true (.int .i64 n))],[],0⟩) (λ_ _ h=>h) ?_ ?_)
 ·rintro n pre x post h hn ih;have hlt:=bW h hn;refine .B ?_;refine T.ct2 Y (bV h hn) ?_;refine .B ?_;refine .F (r:=cR x) (aM h hn) ?_;refine .L ?_;refine .B ?_;refine .X ?_;rw[ai hlt (by omega),show IntKind.i64.wrap (gp pre+IntKind.i64.wrap (IntKind.i64.wrap (x.2-x.1)+1))=gp (pre++[x])by simp[gp]];exact T.K ih
 ·refine .B ?_;refine T.cf2 Y bj ?_;refine .B ?_;exact r1
def c9 (l:List Int):List Int:=l.mergeSort λx y=>decide (x<=y)
theorem qn {w:World}{Z:Nat->Prop}: ∀{xs:List Int} {vs:List Value},L2 (Rep w Z) vs (xs.map (PV.int .i64))->vs=xs.map (Value.int .i64)
 | [],_,.nil=>rfl
 |x::xs,_,.cons h h2=>by
  cases h;rw[qn h2];rfl
theorem mR {w:World}{Z:Nat->Prop}: ∀(xs:List Int),L2 (Rep w Z) (xs.map (Value.int .i64)) (xs.map (PV.int .i64))
 | []=> .nil
 |x::xs=> .cons (.int _ _) (mR xs)
theorem k9 (l:List Int)(hl:l.length*8<=140737488355328):SpecM Tryz.prog 86 3 1 (l.map cI) [] ((c9 l).map cI) []:=by
 have hsl:(c9 l).length=l.length:=Gv ..;refine⟨⟨_,Tryz.func86,rfl,rfl⟩,λp hp=>(by cases hp),λw Z1 v0 vs ho hz hvs=> ?_⟩;cases hvs;obtain⟨xs,hrow,hx,h1,h2⟩:=ho;rw[show(l.map cI).flatten=l.map (PV.int .i64)from n8 _ l]at hx;obtain rfl:=qn hx;rw[EB]at hrow;obtain⟨hln,hrow⟩:=hrow;rcases hrow with ⟨rfl,hnil⟩|⟨g,cap,cur,rfl,_,hb,hcap,hmax,hsz,htk⟩
 ·obtain rfl:l=[]:=(by simpa using hnil);refine(ot none 0 w).mono ?_;rintro e w' ⟨rfl,rfl⟩;refine⟨[],rfl,rfl,rfl,rfl,EO _,λ_ _ _=>rfl,?_,.nil⟩;rw[show c9 []=[]from List.mergeSort_nil ..];refine⟨[],⟨rfl,.inl ⟨rfl,rfl⟩⟩,.nil,?_,?_⟩<;>(intro r hr;cases hr)
 ·have hg:g<w.heap.size:=(EU.1 hb).1;rw[HO]at htk;refine(w6 g 0 cap l w (holds_of_blockI hb htk) hg (by omega)).mono ?_;rintro e w' ⟨rfl,n,os,rfl⟩;have hgr:=grownBy_sortedI (n:=n) (os:=os) (w:=w) (g:=g) (c9 l).toArray;refine⟨[],rfl,hgr.os,hgr.tape,hgr.output,hgr.size,λb hb1 hb2=>hgr.block b hb1 (λe=>hb2 (by simpa[VB,aC]using e.symm)),?_,.nil⟩;have hr:=ownsRow_sortedI (base:=0) (n:=n) (os:=os) (ts:=c9 l) hsl (Ek _) hb hcap hmax hsz;refine⟨(c9 l).map (Value.int .i64),?_,?_,λr hr=>by obtain⟨x,_,rfl⟩:=EH.1 hr;rfl,λr hr p hp=>by obtain⟨x,_,rfl⟩:=EH.1 hr;simp[cI]at hp;rw[hp];rfl⟩;·rw[EB,hsl];exact hr
  ·rw[show((c9 l).map cI).flatten=(c9 l).map (PV.int .i64)from n8 _ _];exact mR _
theorem lN (l:List Int)(hl:l.length*8<=140737488351232):Spec Tryz.prog 220 false [.fn (.func 240) [] [.ptr [aq l]]] [.own 3 1 ((c9 l).map cI)]:=by
 refine Spec.body Tryz.func220 Y Y Y λw0 Z0=> ?_;have hc:=mF (g:=240) (caps:=[.ptr [aq l]]) (xs:=l) (enters_of Tryz.func240 (by kernel_rfl) Y) (λw Z us h=>by
  cases h with
  |cons h1 h2=>cases h2;exact qU 0 0 l hl w _ h1) (by omega)
 refine .B ?_;refine .D hc ?_;refine J.cm Y Y Y Y Y Y Y Y Y (k9 l (by omega)) Y Y Y ?_;refine .B ?_;exact⟨_,.o Y Y Y (λ_=> .inl Y) (by simp) .nil⟩
def domOfP (l:List Int):List (Int×Int)×Int:=if l.all aN=true then(if gp (packG (c9 l)) > 4096 then([],2)else(packG (c9 l),0))else([],20)
theorem lA (l:List Int)(hl:l.length*16<=140737488351232):Spec Tryz.prog 185 false [aq l] [.own 53 2 ((domOfP l).1.map cR),.val (.int .i64 (domOfP l).2)]:=by
 refine Spec.body Tryz.func185 Y Y Y λw0 Z0=> ?_;have hc:=qK (p:=λv=> !aN v) (f:=226) l (λv _=>Bk v) (by omega);have hsl:(c9 l).length=l.length:=Gv ..;have hpg:=rL (c9 l);refine .B ?_;refine .D hc ?_;have hany:(l.any λv=> !aN v)= !l.all aN:=by
  rw[GC]
 rw[hany];unfold domOfP;cases ha:l.all aN with
 |false=>
  refine T.ct Y ?_;refine .B ?_;exact⟨_,.ownN Y (.v Y Y Y (λ_=>rfl) .nil)⟩
 |true=>
  refine T.cf Y ?_;have hvs: ∀v∈c9 l,aN v=true:=λv hv=>EN.1 ha v ((Hj l _).mem_iff.1 hv);refine .B ?_;refine .D (o9 l) ?_;refine .D (lN l (by omega)).frz ?_;refine .D (vk (c9 l) hvs (by omega)) ?_;refine .D (ig (packG (c9 l)) (by omega)) ?_;refine T.cd Y (λh=> ?_) (λh=> ?_)
  ·rw[E6 Y,E6 h];refine .B ?_;exact⟨_,.ownN Y (.v Y Y Y (λ_=>rfl) .nil)⟩
  ·rw[E6 Y,E4 h];refine .B ?_;exact⟨_,.o Y Y Y (λ_=> .inl Y) (by simp) (.v rfl rfl rfl (λ_=>rfl) .nil)⟩
theorem zW (d:aa)(vs:List Int)(hl:vs.length*24<=140737488355328):(listsP d vs).length*24<=140737488355328/\∀x∈listsP d vs,x.length*8<=140737488355328:=by
 refine⟨by rw[listsP,EB];exact hl,λx hx=> ?_⟩;obtain⟨v,_,rfl⟩:=EH.1 hx;have:=re (d.getD v.toNat []);omega
def nX (L:List (List Int))(i:Nat):List Int:=(L.getD i []).filter λx=>(dK (L.set i [x])).2
def lK (L:List (List Int)):List Int->Nat->aa->aa
 | [],_,out=>out
 |v::vs,i,out=>lK L vs (i+1) (out.set v.toNat (domOfP (nX L i)).1)
def pJ (d:aa)(vs:List Int):Option aa:=if []∈d then none else if(dK (listsP d vs)).2=true then some (lK (listsP d vs) vs 0 d)else none
theorem uy (d:aa)(c:Con)(hd:jS d)(hb: ∀x∈d,InB x)(hx: ∀x∈d,x.length*16<=140737488351232)(hv: ∀v∈c.vars,0<=v/\v.toNat<d.length)(hl:c.vars.length*24<=140737488355328):Spec Tryz.prog 133 false [ak d,.agg (cC c)] (aJ (pJ d c.vars)):=by
 refine Spec.body Tryz.func133 Y Y Y λw0 Z0=> ?_;obtain⟨hd1,hd2⟩:=hd;generalize hR:pJ d c.vars=R;unfold pJ at hR;refine .B ?_;refine T.sub (Rel.own0 (s:=6) 54 1 Y) ?_;refine T.K (T.listI d (λpre=>[]∉pre) (λn pre post=>⟨[(0,.val false (ak d)),(3,.optr 0 0 0 0),(6,.ref 1),(20,.val false (ak d)),(21,.val true (.int .i64 (d.map cD).length)),(22,.val true (.int .i64 n))],[(0,some (.box false (cC c))),(1,some (.sl 54 1 true (pre.map cD)))],2⟩) (λ_ _ h=>h) (by simp) ?_ ?_)
 ·rintro n pre x post h hn hi ih;have hlt:=bW h hn;have hxl:=hd2 x (by rw[h];simp);refine .B ?_;refine T.ct2 Y (bV h hn) ?_;refine .B ?_;refine .F (r:=cD x) (aM h hn) ?_;refine T.cd Y (λh1=> ?_) (λh1=> ?_)
  ·have hx:x=[]:=(by simp at h1;exact h1);have:R=none:=(by rw[E6 (by rw[h,hx];simp)]at hR;exact hR.symm);subst this;refine .B ?_;exact⟨_,.ownN Y (.v Y Y Y (λ_=>rfl) .nil)⟩
  ·have hx:x≠[]:=λe=>h1 (by rw[e];rfl);refine .B ?_;refine .D (bT x (by omega)).frz ?_;refine .Z ?_;refine J.aD Y Y Y Y Y Y Y Y Y Y Y Y Y Y Y Y Y Y Y (by omega) ?_;refine .B ?_;rw[ai hlt (by omega)];exact T.K (ih (by simp[hi,Ne.symm hx]))
 ·intro hi;rw[E4 hi]at hR;have hlo:=zW d c.vars hl;have hlen:(listsP d c.vars).length=c.vars.length:=EB ..;have hL4: ∀x∈listsP d c.vars,x.length<=4097:=λx hx=>by
   obtain⟨v,_,rfl⟩:=EH.1 hx;exact re _
  have hsl:=(uz d c.vars ⟨hd1,hd2⟩ hb hx hv hl).frz;generalize listsP d c.vars=L at*;have hsp:=l4 L hlo.1 hlo.2;refine .B ?_;refine T.cf2 Y bj ?_;refine .B ?_;refine .D hsl ?_;have hR2:(dK L).2=(dA L).isSome:=(by unfold dK;cases dA L<;>rfl);rw[hR2]at hR;cases hm:dA L with
  |none=>
   rw[hm]at hsp hR;dsimp only at hsp;obtain rfl:R=none:=(by simpa using hR.symm);refine J.co (qs:=[]) (cs2:=[]) false [] [] Y Y Y Y Y Y hsp trivial Y Y Y Y Y Y Y λns hns=> ?_;obtain rfl:ns=[]:=EP hns;refine .B ?_;refine T.ct Y ?_;refine .B ?_;exact⟨_,.ownN Y (.v Y Y Y (λ_=>rfl) .nil)⟩
  |some b0=>
  rw[hm]at hsp hR;dsimp only at hsp;obtain rfl:R=some (lK L c.vars 0 d):=(by simpa using hR.symm);refine J.co (qs:=[]) (cs2:=[]) false [] [1001,1002] Y Y Y Y Y Y hsp trivial Y Y Y Y Y Y Y λns hns=> ?_;obtain⟨pm,pb,rfl⟩: ∃pm pb,ns=[pm,pb]:=by
   match ns,hns with
   | [a,b],_=>exact⟨a,b,rfl⟩
  refine .B ?_;refine T.cf Y ?_;refine .B ?_;refine T.K (T.ind (λx:Nat×aa=>⟨[(3,.optr 0 0 0 0),(6,.ref 1),(9,.val true (bN L)),(47,.val false (aq c.vars)),(48,.val true (.int .i64 (c.vars.map cI).length)),(49,.val true (.int .i64 x.1))],[(0,some (.box false (cC c))),(1,some (.sl 54 1 true (x.2.map cD)))],2⟩)
   (λx=>x.1<=c.vars.length/\x.2.length=d.length/\lK L (c.vars.drop x.1) x.1 x.2=lK L c.vars 0 d) (λx=>c.vars.length-x.1) (0,d) ⟨by simp,rfl,rfl⟩ (λ_ _ h=>h) ?_)
  rintro⟨k,out⟩ ⟨hk,hol,hst⟩ ih;simp only at hk hol hst;dsimp only;refine .B ?_;refine T.cd Y (λh1=> ?_) (λh1=> ?_)
  rotate_left
  ·have h1:k=c.vars.length:=(by simp at h1;omega);subst h1;rw[FK,lK]at hst;subst hst;refine .B ?_;exact⟨_,.o Y Y Y (λ_=> .inl Y) (by simp) (.v rfl rfl rfl (λ_=>rfl) .nil)⟩
  have h1:k<c.vars.length:=(by simpa using h1);rw[EQ h1,lK]at hst;have hvk:=hv _ (EA h1);have hvr:(c.vars.map cI)[((k:Nat):Int).toNat]? =some (cI c.vars[k]):=aA h1;have hkL:k<L.length:=(by omega);have hrow:(L.map cL)[((k:Nat):Int).toNat]? =some (cL (L.getD k [])):=(by simp[hkL]);have hml:(L.getD k []).length<=4097:=by
   rw[E0,E5 hkL];exact hL4 _ (EA hkL)
  have hw1:IntKind.i64.wrap ((k:Int)+1)=((k+1:Nat):Int):=ai (l:=c.vars.length) h1 (by omega);refine .B ?_;refine .I (r:=cI c.vars[k]) hvr ?_;generalize c.vars[k]=v at*;refine .B ?_;refine J.sub (Rel.own0 (s:=14) 3 1 Y) ?_;refine .F (r:=cL (L.getD k [])) hrow ?_;have hlf:nX L k=(L.getD k []).filter λx=>(dK (L.set k [x])).2:=rfl;generalize L.getD k []=Lk at*;have hlL:(nX L k).length<=Lk.length:=(by rw[hlf];exact Eu ..);refine T.K (T.list Lk (λn pre post=>⟨[(3,.optr 0 0 0 0),(6,.ref 1),(9,.val true (bN L)),(12,.val true (.int .i64 k)),(13,.val true (.int .i64 v)),(14,.ref 2),(47,.val false (aq c.vars)),(48,.val true (.int .i64 (c.vars.map cI).length)),(49,.val true (.int .i64 k)),(57,.val true (aq Lk)),(58,.val true (.int .i64 (Lk.map cI).length)),(59,.val true (.int .i64 n))],
    [(0,some (.box false (cC c))),(1,some (.sl 54 1 true (out.map cD))),(2,some (.sl 3 1 true ((pre.filter λx=>(dK (L.set k [x])).2).map cI)))],3⟩) (λ_ _ h=>h) ?_ ?_)
  ·rintro n pre x post h hn ih2;have hlt:=bW h hn;have hfl:(pre.filter λx=>(dK (L.set k [x])).2).length<=pre.length:=Eu ..;have hwn:IntKind.i64.wrap ((n:Int)+1)=((n+1:Nat):Int):=ai hlt (by omega);have hset: ∀y∈L.set k [x],y.length*8<=140737488355328:=λy hy=>by
    rcases EV hy with hy|rfl;·exact hlo.2 y hy
    ·simp
   have hsp2:=l4 (L.set k [x]) (by rw[F4];exact hlo.1) hset;have hR3:(dK (L.set k [x])).2=(dA (L.set k [x])).isSome:=(by unfold dK;cases dA (L.set k [x])<;>rfl);refine .B ?_;refine T.ct2 Y (bV h hn) ?_;refine .B ?_;refine .F (r:=cI x) (aM h hn) ?_;refine .D (wC L hlo.1) ?_;refine .Z ?_;refine J.io Y Y Y Y Y Y Y Y Y (by omega) (by rw[EB];omega) Y ?_;refine .B ?_;refine J.w1 Y Y Y Y Y Y Y Y Y Y Y (z:=[x]) (λ_=>rfl) (by omega) ?_;refine .B ?_;refine J.sub (Rel.frz (s:=71) (λ_ h=>h) Y Y) ?_;cases hm2:dA (L.set k [x])with
   |none=>
    rw[hm2]at hsp2 hR3;dsimp only at hsp2;have hx2:(pre++[x]).filter (λx=>(dK (L.set k [x])).2)=pre.filter λx=>(dK (L.set k [x])).2:=by
     rw[Fb,Fy (by rw[hR3];simp)];simp
    rw[hx2]at ih2;refine J.co (qs:=[]) (cs2:=[]) false [] [] Y Y Y Y Y Y hsp2 trivial Y Y Y Y Y Y Y λns hns=> ?_;obtain rfl:ns=[]:=EP hns;refine .B ?_;refine T.cf Y ?_;refine .B ?_;rw[hwn];exact T.K ih2
   |some b2=>
    rw[hm2]at hsp2 hR3;dsimp only at hsp2;have hx2:(pre++[x]).filter (λx=>(dK (L.set k [x])).2)=pre.filter (λx=>(dK (L.set k [x])).2)++[x]:=by
     rw[Fb,Fo (by rw[hR3];simp)];simp
    rw[hx2]at ih2;refine J.co (qs:=[]) (cs2:=[]) false [] [1003,1004] Y Y Y Y Y Y hsp2 trivial Y Y Y Y Y Y Y λns hns=> ?_;obtain⟨pm2,pb2,rfl⟩: ∃pm2 pb2,ns=[pm2,pb2]:=by
     match ns,hns with
     | [a,b],_=>exact⟨a,b,rfl⟩
    refine .B ?_;refine T.ct Y ?_;refine .B ?_;refine .Z ?_;refine J.aI Y Y Y Y Y Y Y Y Y Y Y Y Y Y Y Y Y Y Y (by omega) ?_;refine .B ?_;rw[hwn];exact T.K ih2
  ·rw[<-hlf];refine .B ?_;refine T.cf2 Y bj ?_;refine .B ?_;refine .D (lA (nX L k) (by omega)).frz ?_;refine J.io Y Y Y Y Y Y Y Y Y hvk.1 (by rw[EB,hol];exact hvk.2) Y ?_;refine .B ?_;refine J.w1 Y Y Y Y Y Y Y Y Y Y Y (z:=(domOfP (nX L k)).1) (λ_=>rfl) (by rw[hol];exact hvk.2) ?_;refine .B ?_;rw[hw1];exact T.K (ih (k+1,out.set v.toNat (domOfP (nX L k)).1) ⟨by omega,by rw[F4];exact hol,hst⟩ (by show _-_<_-_;omega))
structure ValD (d:aa):Prop where
 small:d.length*24<=140737488355328
 inb: ∀x∈d,InB x
 len: ∀x∈d,x.length*16<=140737488351232
 vals: ∀x∈d,(vals x).length<=4097
theorem ValD.dom {d:aa}(h:ValD d){v:Int}(hv:v.toNat<d.length):domAt d v∈d:=by
 unfold domAt;rw[E0,E5 hv];exact EA hv
theorem yZ {d:aa}{v:Int}(hv:v.toNat<d.length):(d.map cD)[v.toNat]? =some (cD (domAt d v)):=by simp[domAt,hv]
def kC (d:aa)(vars:List Int):Nat->List Int->Bool
 |0,_=>true
 |n+1,had=>(vals (domAt d (vars.getD had.length 0))).any λx=> !decide (x∈had)&&kC d vars n (had++[x])
theorem BR (d:aa)(vars:List Int)(hd:ValD d)(hv: ∀v∈vars,0<=v/\v.toNat<d.length)(hl:vars.length*8<=140737488355328): ∀(n:Nat) (had:List Int),n+had.length=vars.length->
  Spec Tryz.prog 237 false [ak d,aq vars,aq had] [.val (.bool (kC d vars n had))]:=by
 intro n
 induction n with
 |zero=>
  intro had hn;refine Spec.body Tryz.func237 Y Y Y λw0 Z0=> ?_;refine .B ?_;refine T.cd Y (λh=> ?_) (λh=> ?_)
  ·refine .B ?_;exact r1
  ·simp only[EB]at h;omega
 |succ n ihn=>
  intro had hn;refine Spec.body Tryz.func237 Y Y Y λw0 Z0=> ?_;have hvm:vars[had.length]'(by omega)∈vars:=EA _;have hvr:(vars.map cI)[(((had.map cI).length:Nat):Int).toNat]? =some (cI (vars.getD had.length 0)):=by
   rw[EB];have:had.length<vars.length:=(by omega);simp[this]
  have hvd:vars.getD had.length 0∈vars:=by
   rw[E0,E5 (by omega)];exact hvm
  have hva:=hv _ hvd;have hdm:=hd.dom hva.2;have hvs:=(bB (domAt d (vars.getD had.length 0)) (hd.inb _ hdm) (by have:=hd.vals _ hdm;omega) (by have:=hd.len _ hdm;omega)).frz;have hvl:=hd.vals _ hdm;rw[kC];generalize vars.getD had.length 0=v at*;refine .B ?_;refine T.cd Y (λh=> ?_) (λh=> ?_);·simp only[EB]at h;omega
  refine .B ?_;refine .F (r:=cI v) hvr ?_;refine J.i Y Y Y Y Y Y Y Y Y (r:=cD (domAt d v)) hva.1 (yZ hva.2) Y ?_;refine .B ?_;refine .D hvs ?_;generalize vals (domAt d v)=l at*;refine T.K (T.listI l (λpre=>(pre.any λx=> !decide (x∈had)&&kC d vars n (had++[x]))=false) (λk pre post=>⟨[(0,.val false (ak d)),(1,.val false (aq vars)),(2,.val false (aq had)),(7,.val true (aq l)),(8,.val true (.int .i64 k))],[],0⟩) (λ_ _ h=>h) Y ?_ ?_)
  ·rintro k pre x post h hk hi ih;have hlt:=bW h hk;have hhs:=mr had x (by omega);refine .B ?_;refine T.ct2 Y (bV h hk) ?_;refine .B ?_;refine .Q ?_;refine J.a Y Y Y Y Y Y Y Y Y Y Y Y Y Y Y Y Y jE (by show(0+List.length _)*8<=_;simp;omega) ?_;refine .B ?_;refine .F (r:=cI x) (aM h hk) ?_;refine .Z ?_;refine J.aI (l:=had) (x:=x) Y Y Y Y Y Y Y Y Y Y Y Y Y Y Y Y Y Y Y (by omega) ?_;refine .B ?_;refine .F (r:=cI x) (aM h hk) ?_;refine .C hhs ?_;by_cases hm:x∈had
   ·rw[EF hm];refine .B ?_;refine T.cf Y ?_;refine .B ?_;rw[ai hlt (by omega)];exact T.K (ih (by rw[He,hi];simp[hm]))
   ·rw[EE hm];refine .B ?_;refine .D (ihn (had++[x]) (by simp;omega)) ?_;cases he:kC d vars n (had++[x])with
    |true=>
     refine T.ct Y ?_;refine .B ?_;refine⟨_,.v Y Y ?_ (λ_=>rfl) .nil⟩;rw[h];simp[hm,he]
    |false=>
     refine T.cf Y ?_;refine .B ?_;rw[ai hlt (by omega)];exact T.K (ih (by rw[He,hi];simp[hm,he]))
  ·intro hi;rw[hi];refine .B ?_;refine T.cf2 Y bj ?_;refine .B ?_;exact r1
theorem Bd (d:aa)(vars:List Int)(hd:ValD d)(hv: ∀v∈vars,0<=v/\v.toNat<d.length)(hl:vars.length*8<=140737488355328):
  Spec Tryz.prog 207 false [ak d,aq vars] [.val (.bool (kC d vars vars.length []))]:=by
 refine Spec.body Tryz.func207 Y Y Y λw0 Z0=> ?_;refine .B ?_;refine .O ?_;refine .D (BR d vars hd hv hl vars.length [] Y) ?_;exact r1
def fF (d:aa)(vars:List Int)(v:Int):List Int:=(vals (domAt d v)).filter λx=>kC (d.set v.toNat [(x,x)]) vars vars.length []
def step8 (d:aa)(vars:List Int):List Int->aa->aa
 | [],out=>out
 |v::vs,out=>step8 d vars vs (out.set v.toNat (bX (fF d vars v)))
def dz (d:aa)(vars:List Int):Option aa:=if []∈d then none else if []∈step8 d vars vars d then none else some (step8 d vars vars d)
theorem ValD.one {d:aa}(h:ValD d)(i:Nat){x:Int}(hx: -1048576<=x/\x<=1048576):ValD (d.set i [(x,x)]):=by
 have key: ∀y∈d.set i [(x,x)],y∈d∨y=[(x,x)]:=λy hy=>EV hy;refine⟨by rw[F4];exact h.small,λy hy=> ?_,λy hy=> ?_,λy hy=> ?_⟩
 ·rcases key y hy with hy|rfl;·exact h.inb y hy
  ·intro r hr;obtain rfl:=EJ.1 hr;exact⟨hx.1,hx.2,hx.1,hx.2⟩
 ·rcases key y hy with hy|rfl;·exact h.len y hy
  ·simp
 ·rcases key y hy with hy|rfl;·exact h.vals y hy
  ·have:Go.Proofs.YtopcjbahjjhdmaaGreat.vals [(x,x)]=[x]:=by
    show rng x x++[]=_;rw[cH];rfl
   rw[this];simp
theorem ve (d:aa)(c:Con)(hd:ValD d)(hv: ∀v∈c.vars,0<=v/\v.toNat<d.length)(hl:c.vars.length*8<=140737488355328):
  Spec Tryz.prog 146 false [ak d,.agg (cC c)] [.val (ak ((dz d c.vars).getD [])),.val (.bool (dz d c.vars).isSome)]:=by
 refine Spec.body Tryz.func146 Y Y Y λw0 Z0=> ?_;have hds:=hd.small;have hls:=cJ d hd.small (λx hx=>by have:=hd.len x hx;omega);refine .B ?_;refine .D (dN d (by omega)) ?_;generalize hR:dz d c.vars=R;unfold dz at hR;refine T.cond Y (λhe=> ?_) (λhe=> ?_)
 ·have he: []∈d:=(by simpa using he);rw[E6 he]at hR;subst hR;refine .B ?_;exact r2
 have he: []∉d:=(by simpa using he);rw[E4 he]at hR;refine .B ?_;refine .D hls ?_;refine T.K (T.ind (λx:Nat×aa=>⟨[(0,.val false (ak d)),(3,.optr 0 0 0 0),(6,.ref 1),(7,.val true (.int .i64 x.1))],[(0,some (.box false (cC c))),(1,some (.sl 54 1 true (x.2.map cD)))],2⟩)
  (λx=>x.1<=c.vars.length/\x.2.length=d.length/\step8 d c.vars (c.vars.drop x.1) x.2=step8 d c.vars c.vars d) (λx=>c.vars.length-x.1) (0,d) ⟨by simp,rfl,rfl⟩ (λ_ _ h=>h) ?_)
 rintro⟨k,out⟩ ⟨hk,hol,hst⟩ ih;simp only at hk hol hst;dsimp only;refine .B ?_;refine T.cd Y (λh1=> ?_) (λh1=> ?_)
 rotate_left
 ·have h1:k=c.vars.length:=(by simp at h1;omega);subst h1;rw[FK,step8]at hst;subst hst;have hto:=jV (step8 d c.vars c.vars d) (by rw[hol];omega);generalize step8 d c.vars c.vars d=out at*;refine .B ?_;refine J.sub (Rel.frz (s:=78) (λ_ h=>h) Y Y) ?_;refine J.ct Y Y Y Y Y hto Y Y ?_;refine .B ?_;subst hR;by_cases hn: []∈out
  ·rw[E6 hn,E6 hn,EF hn];exact r2
  ·rw[E4 hn,E4 hn,EE hn];exact r2
 have h1:k<c.vars.length:=(by simpa using h1);rw[EQ h1,step8]at hst;have hvk:=hv _ (EA h1);have hvr:(c.vars.map cI)[((k:Nat):Int).toNat]? =some (cI c.vars[k]):=aA h1;have hw1:IntKind.i64.wrap ((k:Int)+1)=((k+1:Nat):Int):=ai (l:=c.vars.length) h1 (by omega);generalize c.vars[k]=v at*;have hdm:=hd.dom hvk.2;have hvs:=(bB (domAt d v) (hd.inb _ hdm) (by have:=hd.vals _ hdm;omega) (by have:=hd.len _ hdm;omega)).frz;have hvl:=hd.vals _ hdm;have hvi:=oB (hd.inb _ hdm);have hl8:fF d c.vars v=(vals (domAt d v)).filter λx=>kC (d.set v.toNat [(x,x)]) c.vars c.vars.length []:=rfl;refine .B ?_;refine .F (r:=cI v) hvr ?_;refine J.i Y Y Y Y Y Y Y Y Y (r:=cD (domAt d v)) hvk.1 (yZ hvk.2) Y ?_;refine .B ?_;refine .C hvs ?_;refine .Q ?_;generalize vals (domAt d v)=l at*;have hll:(fF d c.vars v).length<=l.length:=(by rw[hl8];exact Eu ..);refine T.K (T.list l (λn pre post=>⟨[(0,.val false (ak d)),(3,.optr 0 0 0 0),(6,.ref 1),(7,.val true (.int .i64 k)),(8,.val true (aq l)),(9,.ref 2),(10,.val true (.int .i64 n))],
   [(0,some (.box false (cC c))),(1,some (.sl 54 1 true (out.map cD))),(2,some (.sl 3 1 true ((pre.filter λx=>kC (d.set v.toNat [(x,x)]) c.vars c.vars.length []).map cI)))],3⟩) (λ_ _ h=>h) ?_ ?_)
 ·rintro n pre x post h hn ih2;have hlt:=bW h hn;have hfl:(pre.filter λx=>kC (d.set v.toNat [(x,x)]) c.vars c.vars.length []).length<=pre.length:=Eu ..;have hwn:IntKind.i64.wrap ((n:Int)+1)=((n+1:Nat):Int):=ai hlt (by omega);have hxi:=hvi x (by rw[h];simp);have hos:=Bd (d.set v.toNat [(x,x)]) c.vars (hd.one v.toNat hxi) (λu hu=>by rw[F4];exact hv u hu) hl;refine .B ?_;refine T.ct2 Y (bV h hn) ?_;refine .B ?_;refine .D hls ?_;refine T.rdm 16 Y (by kernel_rfl) Y ?_;refine .M ?_;refine .I (r:=cI v) hvr ?_;refine .M ?_;refine .I (r:=cI x) (aM h hn) ?_;refine .M ?_;refine .I (r:=cI x) (aM h hn) ?_;refine .M ?_;refine .V ?_;refine .M ?_;refine J.io Y Y Y Y Y Y Y Y Y hvk.1 (by rw[EB];exact hvk.2) Y ?_;refine .M ?_;refine J.w1 Y Y Y Y Y Y Y Y Y Y Y (z:=[(x,x)]) (λ_=>rfl) hvk.2 ?_;refine .B ?_;refine .D hos ?_;cases he2:kC (d.set v.toNat [(x,x)]) c.vars c.vars.length []with
  |false=>
   rw[Fb,Fy (by simp[he2]),List.filter_nil,FN]at ih2;refine T.cf Y ?_;refine .B ?_;rw[hwn];exact T.K ih2
  |true=>
   rw[Fb,Fo (by simp[he2]),List.filter_nil]at ih2;refine T.ct Y ?_;refine .B ?_;refine .F (r:=cI x) (aM h hn) ?_;refine .Z ?_;refine J.aI Y Y Y Y Y Y Y Y Y Y Y Y Y Y Y Y Y Y Y (by omega) ?_;refine .B ?_;rw[hwn];exact T.K ih2
 ·rw[<-hl8];have hpk:=(il (fF d c.vars v) (λx hx=>by
   rw[hl8]at hx;have:=hvi x (F6.1 hx).1;omega) (by omega)).frz
  refine .B ?_;refine T.cf2 Y bj ?_;refine .B ?_;refine T.rdm 8 Y (by kernel_rfl) Y ?_;refine .M ?_;refine .I (r:=cI v) hvr ?_;refine .M ?_;refine .C hpk ?_;refine .M ?_;refine J.io Y Y Y Y Y Y Y Y Y hvk.1 (by rw[EB,hol];exact hvk.2) Y ?_;refine .M ?_;refine J.w1 Y Y Y Y Y Y Y Y Y Y Y (z:=bX (fF d c.vars v)) (λ_=>rfl) (by rw[hol];exact hvk.2) ?_;refine .B ?_;rw[hw1];exact T.K (ih (k+1,out.set v.toNat (bX (fF d c.vars v))) ⟨by omega,by rw[F4];exact hol,hst⟩ (by show _-_<_-_;omega))
def Au (vars:List Int):Con:=⟨1,vars,[],0,0,[],0⟩
theorem xu {l:List Int}(h:Up l):packG l=bX l:=by
 have key: ∀(l:List Int) (o:List (Int×Int)) (lo x:Int),Up (x::l)->l.foldl gN (o++[(lo,x)])=o++dp lo x l:=by
  intro l
  induction l with
  |nil=>intro o lo x _;rfl
  |cons y l ih=>
   intro o lo x hu;have h1:=Ec.1 hu;have hxy:=h1.1 y (.head _);rw[Eg,iJ,E4 (by omega),dp];by_cases e:y=x+1;·rw[E6 (by omega),E6 e,ih _ _ _ h1.2]
   ·rw[E4 (by omega),E4 e,ih _ _ _ h1.2,Ez];rfl
 cases l with
 |nil=>rfl
 |cons x l=>
  show l.foldl gN (gN [] x)=_;rw[rK];exact key l [] x x h
theorem AR {l:List Int}(h:Up l):c9 l=l:=List.mergeSort_of_pairwise (h.imp λh=>by simp;omega)
theorem pk {d:List (Int×Int)}(h:Fine d):gp d=((vals d).length:Nat):=by
 have hb:=h.domB.1;have hf:=h.few;have hok:=h.ok;have key: ∀(d:List (Int×Int)) (n:Nat),InB d->(∀r∈d,r.1<=r.2)->n+(vals d).length<=1000000000000000->d.foldl (λn r=>wr (n+wr (wr (r.2-r.1)+1))) (n:Int)=((n+(vals d).length:Nat):Int):=by
  intro d
  induction d with
  |nil=>intro n _ _ _;simp[vals]
  |cons r d ih=>
   intro n hb ho hl;have h1:=hb r (.head _);have h2:=ho r (.head _);rw[bC,EZ,show(rng r.1 r.2).length=(r.2+1-r.1).toNat by simp[rng]]at hl⊢;rw[Eg];have e:wr ((n:Int)+wr (wr (r.2-r.1)+1))=((n+(r.2+1-r.1).toNat:Nat):Int):=by
    simp only[wr];rw[ae (n:=r.2-r.1) (by omega) (by omega),ae (n:=r.2-r.1+1) (by omega) (by omega),ae (by omega) (by omega)];omega
   rw[e,ih _ (λr hr=>hb r (.tail _ hr)) (λr hr=>ho r (.tail _ hr)) (by omega)];congr 1;omega
 have:=key d 0 hb hok.1 (by omega);simpa[gp]using this
theorem lq {l:List Int}(h:Up l)(hv: ∀v∈l,-1048576<=v/\v<=1048576)(hn:l.length<=4096):Fine (bX l):=by
 refine⟨fR h,?_,?_⟩;·rw[bG h];exact hv
 ·rw[bG h];omega
theorem sK {l:List Int}(h:Up l)(hv: ∀v∈l,-1048576<=v/\v<=1048576)(hn:l.length<=4096):domOfP l=(bX l,0):=by
 unfold domOfP;rw[AR h,xu h,pk (lq h hv hn),bG h,E6 (EN.2 λv hm=>by simpa[aN]using hv v hm),E4 (by omega)]
structure FewD (d:aa):Prop where
 small:d.length*24<=140737488355328
 fine: ∀x∈d,Fine x
 few: ∀x∈d,(vals x).length<=4096
theorem FewD.valD {d:aa}(h:FewD d):ValD d:=⟨h.small,λx hx=>(h.fine x hx).domB.1,λx hx=>by have:=(h.fine x hx).len;omega,λx hx=>by have:=h.few x hx;omega⟩
theorem AH {x:List (Int×Int)}(h:(vals x).length<=4096):rg x=vals x:=EY (by omega)
theorem FewD.at {d:aa}(h:FewD d)(v:Int):(vals (domAt d v)).length<=4096/\Up (vals (domAt d v))/\∀x∈vals (domAt d v),-1048576<=x/\x<=1048576:=by
 unfold domAt;by_cases hv:v.toNat<d.length
 ·rw[E0,E5 hv];have hm:d[v.toNat]∈d:=EA hv;exact⟨h.few _ hm,aG (h.fine _ hm).ok,(h.fine _ hm).val⟩
 ·rw[E0,F7 (by omega)];exact⟨by simp[vals],.nil,λx hx=>by cases hx⟩
theorem fk {d:aa}(h:FewD d)(vs:List Int):listsP d vs=vs.map λv=>vals (domAt d v):=
 F0 λv _=>AH (h.at v).1
theorem qz (d:aa)(vars:List Int): ∀(n:Nat) (had:List Int),had.Nodup->(kC d vars n had=true↔∃rest:List Int,rest.length=n/\(∀k,k<n->rest.getD k 0∈vals (domAt d (vars.getD (had.length+k) 0)))/\(had++rest).Nodup)
 |0,had,hn=>by
  rw[kC];exact⟨λ_=>⟨[],rfl,λk hk=>by omega,by simpa using hn⟩,λ_=>rfl⟩
 |n+1,had,hn=>by
  rw[kC,FU];constructor
  ·rintro⟨x,hx,h⟩;simp only[EL,FT,decide_eq_false_iff_not]at h;have hn2:(had++[x]).Nodup:=Gz.2 ⟨hn,by simp,λa ha b hb=>by
    obtain rfl:=EJ.1 hb;exact λe=>h.1 (e▸ha)⟩
   obtain⟨rest,h1,h2,h3⟩:=(qz d vars n (had++[x]) hn2).1 h.2;refine⟨x::rest,by simp[h1],λk hk=> ?_,by simpa using h3⟩;cases k with
   |zero=>exact hx
   |succ k=>
    have:=h2 k (by omega);rw[EZ,show had.length+ [x].length+k=had.length+(k+1)by simp;omega]at this;exact this
  ·rintro⟨rest,h1,h2,h3⟩;cases rest with
   |nil=>cases h1
   |cons x rest=>
    have hx:x∉had:=λhm=>by
     have:=(Gz.1 h3).2.2 x hm x (.head _);exact this Y
    have h4:((had++[x])++rest).Nodup:=(by simpa using h3);refine⟨x,h2 0 (by omega),?_⟩;simp only[EL,FT,decide_eq_false_iff_not];refine⟨hx,(qz d vars n (had++[x]) (Gz.1 h4).1).2 ⟨rest,by simpa using h1,λk hk=> ?_,h4⟩⟩;have:=h2 (k+1) (by omega);rw[EZ,show had.length+ [x].length+k=had.length+(k+1)by simp;omega];exact this
theorem xv {d:aa}(h:FewD d)(vars:List Int):kC d vars vars.length []=(dK (listsP d vars)).2:=by
 have key:kC d vars vars.length []=true↔∃g,Others (listsP d vars) g:=by
  rw[qz d vars vars.length [] .nil,fk h];have hg: ∀j,j<vars.length->(vars.map λv=>vals (domAt d v)).getD j []=vals (domAt d (vars.getD j 0)):=λj hj=>(by simp[hj]);constructor
  ·rintro⟨rest,h1,h2,h3⟩;rw[FZ]at h3;refine⟨λj=>rest.getD j 0,λj hj=> ?_,λj k hj hk e=> ?_⟩
   ·rw[EB]at hj;rw[hg j hj];have:=h2 j hj;simpa using this
   ·rw[EB]at hj hk;have e:rest.getD j 0=rest.getD k 0:=e;rw[E0,E0,E5 (by omega),E5 (by omega)]at e;exact(GU h3).1 e
  ·rintro⟨g,h1,h2⟩;rw[EB]at h1 h2;refine⟨(List.range vars.length).map g,by simp,λk hk=> ?_,?_⟩
   ·have:=h1 k hk;rw[hg k hk]at this;simpa[hk]using this
   ·rw[FZ];exact f9 List.nodup_range λx hx y hy e=>h2 x y (ES.1 hx) (ES.1 hy) e
 rw[GK,key,gy]
theorem FewD.one {d:aa}(h:FewD d)(i:Nat){x:Int}(hx: -1048576<=x/\x<=1048576):FewD (d.set i [(x,x)]):=by
 have key: ∀y∈d.set i [(x,x)],y∈d∨y=[(x,x)]:=λy hy=>EV hy;have hv:vals [(x,x)]=[x]:=by
  show rng x x++[]=_;rw[cH];rfl
 refine⟨by rw[F4];exact h.small,λy hy=> ?_,λy hy=> ?_⟩
 ·rcases key y hy with hy|rfl;·exact h.fine y hy
  ·refine⟨⟨λr hr=> ?_,by simp⟩,?_,?_⟩
   ·obtain rfl:=EJ.1 hr;exact FL _
   ·rw[hv];intro v hm;obtain rfl:=EJ.1 hm;exact hx
   ·rw[hv];simp
 ·rcases key y hy with hy|rfl;·exact h.few y hy
  ·rw[hv];simp
theorem Up.filter {l:List Int}(h:Up l)(p:Int->Bool):Up (l.filter p):=List.Pairwise.filter p h
def jj (d:aa)(vars:List Int):Prop:=vars.Nodup/\∀v∈vars,0<=v/\v.toNat<d.length
theorem lx {d:aa}(h:FewD d){vars:List Int}(hv:jj d vars){i:Nat}(hi:i<vars.length){x:Int}(hx: -1048576<=x/\x<=1048576):listsP (d.set vars[i].toNat [(x,x)]) vars=(listsP d vars).set i [x]:=by
 rw[fk h,fk (h.one _ hx)];apply GN (by simp);intro j h1 h2;have hj:j<vars.length:=(by simpa using h1);rw[GR,List.getElem_set,GR];unfold domAt;rw[E0,FI];by_cases e:i=j
 ·subst e;rw[E6 Y,E6 Y,E6 (hv.2 _ (EA hi)).2];show rng x x++[]=_;rw[cH];rfl
 ·have e2: ¬vars[i].toNat=vars[j].toNat:=λe2=>by
   have h3:=(hv.2 _ (EA hi)).1;have h4:=(hv.2 _ (EA hj)).1;exact e ((GU hv.1).1 (by omega:vars[i]=vars[j]))
  rw[E4 e,E4 e2,<-E0]
theorem Cy {d:aa}(h:FewD d){vars:List Int}(hv:jj d vars){i:Nat}(hi:i<vars.length):nX (listsP d vars) i=fF d vars vars[i]:=by
 unfold nX fF;have e:(listsP d vars).getD i []=vals (domAt d vars[i]):=(by rw[fk h];simp[hi]);rw[e];refine List.filter_congr λx hx=> ?_;have hxr:=(h.at vars[i]).2.2 x hx;rw[<-lx h hv hi hxr,xv (h.one _ hxr)]
theorem mh {d:aa}(h:FewD d)(vars:List Int)(v:Int):Up (fF d vars v)/\(fF d vars v).length<=4096/\(∀x∈fF d vars v,-1048576<=x/\x<=1048576):=by
 obtain⟨h1,h2,h3⟩:=h.at v;exact⟨h2.filter _,Ei (Eu ..) h1,λx hx=>h3 x (F6.1 hx).1⟩
theorem yx {d:aa}(h:FewD d){vars:List Int}(hv:jj d vars): ∀(n i:Nat) (out:aa),n+i=vars.length->lK (listsP d vars) (vars.drop i) i out=step8 d vars (vars.drop i) out
 |0,i,out,hi=>by
  rw[FW (by omega)];rfl
 |n+1,i,out,hi=>by
  have hil:i<vars.length:=(by omega);rw[EQ hil,lK,step8,Cy h hv hil];obtain⟨h1,h2,h3⟩:=mh h vars vars[i];rw[sK h1 h3 h2];exact yx h hv n (i+1) _ (by omega)
theorem jW (d:aa)(vars:List Int): ∀(vs:List Int) (out:aa),(step8 d vars vs out).length=out.length
 | [],out=>rfl
 |v::vs,out=>by rw[step8,jW d vars vs,F4]
theorem lM {d:aa}{vars:List Int}: ∀{vs:List Int} {out:aa} (j:Nat),vs.Nodup->(∀v∈vs,0<=v/\v.toNat<out.length)->(step8 d vars vs out)[j]? =if(j:Int)∈vs then some (bX (fF d vars j))else out[j]?
 | [],out,j,_,_=>by simp[step8]
 |v::vs,out,j,hn,hv=>by
  obtain⟨h1,h2⟩:=F9.1 hn;have hv0:=hv v (.head _);rw[step8,lM j h2 (λu hu=>by rw[F4];exact hv u (.tail _ hu)),FI];by_cases e:v.toNat=j
  ·have e2:v=(j:Int):=(by omega);subst e2;rw[E4 h1,E6 (List.mem_cons_self ..),E6 e,E6 hv0.2]
  ·by_cases hm:(j:Int)∈vs;·rw[E6 hm,E6 (.tail _ hm)]
   ·have hn2: ¬(j:Int)∈v::vs:=λh=>by
     rcases ET.1 h with h|h;·exact e (by omega)
     ·exact hm h
    rw[E4 hm,E4 hn2,E4 e]
theorem kd {d:aa}(h:FewD d){vars:List Int}(hv:jj d vars){i:Nat}(hi:i<vars.length)(x:Int):x∈fF d vars vars[i]↔∃g,Others (listsP d vars) g/\g i=x:=by
 have hL:(listsP d vars).getD i []=vals (domAt d vars[i]):=(by rw[fk h];simp[hi]);have hlen:(listsP d vars).length=vars.length:=EB ..;unfold fF;rw[F6];constructor
 ·rintro⟨hx,he⟩;have hxr:=(h.at vars[i]).2.2 x hx;rw[xv (h.one _ hxr),gy,lx h hv hi hxr]at he;obtain⟨g,h1,h2⟩:=he;rw[F4]at h1 h2;have hgi:g i=x:=by
   have:=h1 i (by omega);rw[E0,FI,E6 Y,E6 (by omega)]at this;simpa using this
  refine⟨g,⟨λj hj=> ?_,h2⟩,hgi⟩;by_cases e:j=i;·subst e;rw[hL,hgi];exact hx
  ·have:=h1 j hj;rw[E0,FI,E4 (Ne.symm e),<-E0]at this;exact this
 ·rintro⟨g,⟨h1,h2⟩,rfl⟩;have hx:=h1 i (by omega);rw[hL]at hx;have hxr:=(h.at vars[i]).2.2 _ hx;refine⟨hx,?_⟩;rw[xv (h.one _ hxr),gy,lx h hv hi hxr];refine⟨g,λj hj=> ?_,λj k hj hk=> ?_⟩
  ·rw[F4]at hj;rw[E0,FI];by_cases e:i=j;·subst e;rw[E6 Y,E6 hj];simp
   ·rw[E4 e,<-E0];exact h1 j hj
  ·rw[F4]at hj hk;exact h2 j k hj hk
theorem yF {l:List Int}(h:l≠[]):bX l≠[]:=by
 cases l with
 |nil=>exact EX rfl h
 |cons x l=>
  have: ∀(l:List Int) (lo x:Int),dp lo x l≠[]:=by
   intro l
   induction l with
   |nil=>intro lo x;simp[dp]
   |cons y l ih=>intro lo x;rw[dp];split;exact ih _ _;simp
  exact this l x x
theorem A5 {d:aa}(h:FewD d){vars:List Int}(hv:jj d vars)(hne:vars≠[]):pJ d vars=dz d vars:=by
 unfold pJ dz;by_cases he: []∈d;·rw[E6 he,E6 he]
 rw[E4 he,E4 he];have hst:=yx h hv vars.length 0 d (by omega);rw[List.drop_zero]at hst;rw[hst];have hat:=λj=>lM (d:=d) (vars:=vars) (out:=d) j hv.1 hv.2;by_cases hm:(dK (listsP d vars)).2=true
 ·rw[E6 hm,E4];intro hem;obtain⟨j,hj⟩:=EK hem;rw[hat j]at hj;split at hj
  ·rename_i hjm;obtain⟨i,hi,e⟩:=G2 hjm;obtain⟨g,hg⟩:=(gy _).1 hm;have hl:=(kd h hv hi (g i)).2 ⟨g,hg,rfl⟩;rw[e]at hl;exact yF (λe2=>by rw[e2]at hl;cases hl) (E7 hj)
  ·exact he (EC hj)
 ·rw[E4 hm,E6];cases hvs:vars with
  |nil=>exact EX hvs hne
  |cons v vs=>
   have hi:0<vars.length:=(by rw[hvs];simp);have hv0:=hv.2 _ (EA hi);have hl:fF d vars vars[0]=[]:=by
    cases hl:fF d vars vars[0]with
    |nil=>rfl
    |cons x l=>
     obtain⟨g,hg,_⟩:=(kd h hv hi x).1 (by rw[hl];exact .head _);exact EX ((gy _).2 ⟨g,hg⟩) hm
   have:=hat vars[0].toNat;have e:((vars[0].toNat:Nat):Int)=vars[0]:=(by omega);rw[e,E6 (EA hi),hl]at this;rw[<-hvs];exact EC this
def badR (d:List (Int×Int))(i:Nat):Bool:= !aN (d.getD i (0,0)).1||(!aN (d.getD i (0,0)).2||(decide ((d.getD i (0,0)).1 > (d.getD i (0,0)).2)||(decide ((i:Int) > 0)&&decide ((d.getD i (0,0)).1-(d.getD (i-1) (0,0)).2<2))))
def sizeI (d:List (Int×Int)):Int:=(d.map λr=>r.2-r.1+1).sum
def chkR (d:List (Int×Int)):Int:=if(List.range d.length).any (badR d)then 20 else if sizeI d > 4096 then 2 else 0
theorem u4 (d:List (Int×Int))(hl:d.length<=1048576):Spec Tryz.prog 31 false [dm d] [.val (.int .i64 (chkR d))]:=by
 refine Spec.body Tryz.func31 Y Y Y λw0 Z0=> ?_;generalize hR:chkR d=R;refine .B ?_;refine T.K (T.ind (λi:Nat=>⟨[(0,.val false (dm d)),(3,.val true (.int .i64 (sizeI (d.take i)))),(4,.val true (.int .i64 i))],[],0⟩) (λi=>i<=d.length/\(0<=sizeI (d.take i)/\sizeI (d.take i)<=i*4194304)/\∀j,j<i->badR d j=false) (λi=>d.length-i) 0 ⟨Ek _,by simp[sizeI],λj hj=>EX hj (FC j)⟩ (λ_ _ h=>h) ?_);rintro i ⟨hi,hn,hb⟩ ih;refine .B ?_;refine T.cd Y (λh1=> ?_) (λh1=> ?_)
 ·have h1:i<d.length:=(by simpa using h1);have hrow:(d.map cR)[((i:Nat):Int).toNat]? =some (cR (d.getD i (0,0))):=(by simp[h1,E0]);have hprev:0<i->(d.map cR)[(((i-1:Nat)):Int).toNat]? =some (cR (d.getD (i-1) (0,0)))/\aN (d.getD (i-1) (0,0)).2=true:=λh=>by
   refine⟨by rw[Eh,EI,E5 (show i-1<d.length by omega),E0,E5 (show i-1<d.length by omega)];rfl,?_⟩;have:=hb (i-1) (by omega);unfold badR at this;simp only[HA,GQ]at this;exact this.2.1
  have htk:sizeI (d.take (i+1))=sizeI (d.take i)+((d.getD i (0,0)).2-(d.getD i (0,0)).1+1):=by
   unfold sizeI;rw[ED h1,Ey,List.sum_append,E0,E5 h1];simp
  have hno:badR d i=true->R=20:=λh=>by
   rw[<-hR];unfold chkR;rw[E6 (FU.2 ⟨i,ES.2 h1,h⟩)]
  have hbd:badR d i=(!aN (d.getD i (0,0)).1||(!aN (d.getD i (0,0)).2||(decide ((d.getD i (0,0)).1 > (d.getD i (0,0)).2)||(decide ((i:Int) > 0)&&decide ((d.getD i (0,0)).1-(d.getD (i-1) (0,0)).2<2))))):=rfl;have ih1:=λhbi:badR d i=false=>λhs=>ih (i+1) ⟨by omega,hs,λj hj=>by
   by_cases e:j=i;·rw[e];exact hbi
   ·exact hb j (by omega)⟩ (by omega)
  have hw1:IntKind.i64.wrap ((i:Int)+1)=((i+1:Nat):Int):=(by rw[ae (by omega) (by omega)];omega);have hw2:0<i->IntKind.i64.wrap ((i:Int)-1)=((i-1:Nat):Int):=λh=>(by rw[ae (by omega) (by omega)];omega);generalize badR d i=bad at*;rw[htk]at ih1;generalize sizeI (d.take i)=n at*;generalize d.getD i (0,0)=r at*;generalize d.getD (i-1) (0,0)=p at*;obtain⟨lo,hi2⟩:=r;simp only at*;refine .B ?_;refine .F (r:=cR (lo,hi2)) hrow ?_;refine .C (kZ lo) ?_;cases a1:aN lo
  ·refine .B ?_;refine T.ct Y ?_;refine .B ?_;rw[hno (by rw[hbd,a1];rfl)];exact r1
  ·refine .B ?_;refine .F (r:=cR (lo,hi2)) hrow ?_;refine .C (kZ hi2) ?_;cases a2:aN hi2
   ·refine .B ?_;refine T.ct Y ?_;refine .B ?_;rw[hno (by rw[hbd,a1,a2];rfl)];exact r1
   ·have v1:=a1;have v2:=a2;simp only[aN,ER]at v1 v2;refine .B ?_;refine .F (r:=cR (lo,hi2)) hrow ?_;refine .F (r:=cR (lo,hi2)) hrow ?_;refine J.g Y Y Y (λh3=> ?_) (λh3=> ?_)
    ·refine .B ?_;refine T.ct Y ?_;refine .B ?_;rw[hno (by rw[hbd,a1,a2,EF h3];rfl)];exact r1
    ·have h3: ¬lo > hi2:=h3;refine .B ?_;refine J.g Y Y Y (λh4=> ?_) (λh4=> ?_)
     ·refine .B ?_;refine .F (r:=cR (lo,hi2)) hrow ?_;rw[hw2 (by omega)];refine .F (r:=cR p) (hprev (by omega)).1 ?_;have hpv:=(hprev (by omega)).2;simp only[aN,ER]at hpv;rw[ae (n:=lo-p.2) (by omega) (by omega)];refine T.cd Y (λh5=> ?_) (λh5=> ?_)
      ·refine .B ?_;rw[hno (by rw[hbd,a1,a2,EE h3,EF h4,EF h5];rfl)];exact r1
      ·refine .B ?_;refine .F (r:=cR (lo,hi2)) hrow ?_;refine .F (r:=cR (lo,hi2)) hrow ?_;have e1:IntKind.i64.wrap (hi2-lo)=hi2-lo:=ae (by omega) (by omega);have e2:IntKind.i64.wrap (hi2-lo+1)=hi2-lo+1:=ae (by omega) (by omega);have e3:IntKind.i64.wrap (n+(hi2-lo+1))=n+(hi2-lo+1):=ae (by omega) (by omega);rw[e1,e2,e3,hw1];exact T.K (ih1 (by rw[hbd,a1,a2,EE h3,EF h4,EE h5];rfl) (by omega))
     ·refine .B ?_;refine T.cf Y ?_;refine .B ?_;refine .F (r:=cR (lo,hi2)) hrow ?_;refine .F (r:=cR (lo,hi2)) hrow ?_;have e1:IntKind.i64.wrap (hi2-lo)=hi2-lo:=ae (by omega) (by omega);have e2:IntKind.i64.wrap (hi2-lo+1)=hi2-lo+1:=ae (by omega) (by omega);have e3:IntKind.i64.wrap (n+(hi2-lo+1))=n+(hi2-lo+1):=ae (by omega) (by omega);rw[e1,e2,e3,hw1];exact T.K (ih1 (by rw[hbd,a1,a2,EE h3,EE h4];rfl) (by omega))
 ·have h1:i=d.length:=(by simp at h1;omega);subst h1;rw[Ej]at hn⊢;have hany:(List.range d.length).any (badR d)=false:=by
   rw[Gf];intro j hj;rw[hb j (ES.1 hj)];simp
  unfold chkR at hR;rw[hany]at hR;simp only[F5,if_false]at hR;generalize sizeI d=n at*;refine .B ?_;refine T.cd Y (λh2=> ?_) (λh2=> ?_)
  ·rw[E6 h2]at hR;subst hR;refine .B ?_;exact r1
  ·rw[E4 h2]at hR;subst hR;refine .B ?_;exact r1
structure Takes {α:Type}(le:α->α->Prop)(good:α->Prop)(f:α->Option α):Prop where
 less: ∀a a',good a->f a=some a'->good a'/\le a' a
 mono: ∀a a' b,good a->good b->le a b->f a=some a'->∃b',f b=some b'/\le a' b'
structure Order (α:Type)(le:α->α->Prop)(good:α->Prop):Prop where
 refl: ∀a,le a a
 trans: ∀a b c,le a b->le b c->le a c
 anti: ∀a b,good a->good b->le a b->le b a->a=b
section
variable {α γ:Type}{le:α->α->Prop}{good:α->Prop}(O:Order α le good){f:γ->α->Option α}
def fN (f:γ->α->Option α)(l:List γ)(a:α):Prop:= ∀c∈l,f c a=some a
structure Come (le:α->α->Prop)(good:α->Prop)(f:γ->α->Option α)(l:List γ)(d a:α):Prop where
 fine:good a
 less:le a d
 keep: ∀e,good e->le e d->fN f l e->le e a
include O in
theorem Come.refl {l:List γ}{d:α}(hd:good d):Come le good f l d d:=⟨hd,O.refl d,λ_ _ h _=>h⟩
include O in
theorem Come.step {l:List γ}{d a a':α}{c:γ}(h:Come le good f l d a)(hc:c∈l)(ht:Takes le good (f c))(he:f c a=some a'):Come le good f l d a':=by
 obtain⟨h1,h2⟩:=ht.less a a' h.fine he;refine⟨h1,O.trans _ _ _ h2 h.less,λe ge le_ hs=> ?_⟩;obtain⟨b',hb,hle⟩:=ht.mono e e a ge h.fine (h.keep e ge le_ hs) (hs c hc);rw[he]at hb;exact E7 hb▸hle
theorem Come.none {l:List γ}{d a:α}{c:γ}(h:Come le good f l d a)(hc:c∈l)(ht:Takes le good (f c))(he:f c a=none): ¬∃e,good e/\le e d/\fN f l e:=by
 rintro⟨e,ge,hle,hs⟩;obtain⟨b',hb,_⟩:=ht.mono e e a ge h.fine (h.keep e ge hle hs) (hs c hc);rw[he]at hb;cases hb
def eU (le:α->α->Prop)(good:α->Prop)(f:γ->α->Option α)(l:List γ)(d:α):Option α->Prop
 |some a=>Come le good f l d a/\fN f l a
 |none=> ¬∃e,good e/\le e d/\fN f l e
include O in
theorem eU.one {l l':List γ}{d:α}{R R':Option α}(hl: ∀c,c∈l↔c∈l')(h:eU le good f l d R)(h':eU le good f l' d R'):R=R':=by
 have hst: ∀e,fN f l e↔fN f l' e:=λe=>⟨λh c hc=>h c ((hl c).2 hc),λh c hc=>h c ((hl c).1 hc)⟩;cases R with
 |none=>
  cases R' with
  |none=>rfl
  |some b=>exact EX ⟨b,h'.1.fine,h'.1.less,(hst b).2 h'.2⟩ h
 |some a=>
  cases R' with
  |none=>exact EX ⟨a,h.1.fine,h.1.less,(hst a).1 h.2⟩ h'
  |some b=>
   exact congrArg some (O.anti a b h.1.fine h'.1.fine (h'.1.keep a h.1.fine h.1.less ((hst a).1 h.2)) (h.1.keep b h'.1.fine h'.1.less ((hst b).2 h'.2)))
include O in
theorem eU.less {l l':List γ}{d d' a':α}{R:Option α}(hl: ∀c,c∈l->c∈l')(hd:le d' d)(h:eU le good f l d R)(h':eU le good f l' d' (some a')): ∃a,R=some a/\le a' a:=by
 have hs:fN f l a':=λc hc=>h'.2 c (hl c hc);have hle:=O.trans _ _ _ h'.1.less hd;cases R with
 |none=>exact EX ⟨a',h'.1.fine,hle,hs⟩ h
 |some a=>exact⟨a,rfl,h.1.keep a' h'.1.fine hle hs⟩
theorem eU.keeps {l:List γ}{d e:α}{R:Option α}(h:eU le good f l d R)(ge:good e)(hle:le e d)(hs:fN f l e): ∃a,R=some a/\le e a:=by
 cases R with
 |none=>exact EX ⟨e,ge,hle,hs⟩ h
 |some a=>exact⟨a,rfl,h.1.keep e ge hle hs⟩
theorem eU.takes {l:List γ}{F:α->Option α}(O:Order α le good)(h: ∀d,good d->eU le good f l d (F d)):Takes le good F:=by
 refine⟨λa a' ga he=> ?_,λa a' b ga gb hle he=> ?_⟩
 ·have:=h a ga;rw[he]at this;exact⟨this.1.fine,this.1.less⟩
 ·have h1:=h a ga;rw[he]at h1;exact eU.less O (λ_ h=>h) hle (h b gb) h1
theorem eU.fix {l:List γ}{F:α->Option α}(O:Order α le good)(h: ∀d,good d->eU le good f l d (F d)){a:α}(ga:good a):F a=some a↔fN f l a:=by
 constructor
 ·intro he;have:=h a ga;rw[he]at this;exact this.2
 ·intro hs;obtain⟨b,hb,hle⟩:=eU.keeps (h a ga) ga (O.refl a) hs;have:=h a ga;rw[hb]at this;rw[hb,O.anti b a this.1.fine ga this.1.less hle]
end
def leD (a b:aa):Prop:=a.length=b.length/\∀v x:Int,0<=v->x∈vals (domAt a v)->x∈vals (domAt b v)
structure GoodD (n:Nat)(d:aa):Prop where
 few:FewD d
 len:d.length=n
 some': []∉d
theorem qG {d:aa}{j:Nat}(h:j<d.length):domAt d (j:Int)=d[j]:=by
 unfold domAt;rw[E0,Eh,E5 h];rfl
theorem qR.mono {a b:aa}(h:leD a b){us:List Int}(h0: ∀u∈us,0<=u){P:List Int->Bool}{v x:Int}(hs: ∃f:Int->Int,(∀u∈us,f u∈vals (domAt a u))/\P (us.map f)=true/\f v=x): ∃f:Int->Int,(∀u∈us,f u∈vals (domAt b u))/\P (us.map f)=true/\f v=x:=by
 obtain⟨f,h1,h2,h3⟩:=hs;exact⟨f,λu hu=>h.2 u _ (h0 u hu) (h1 u hu),h2,h3⟩
structure SuppS (n:Nat)(us:List Int)(P:List Int->Bool)(f:aa->Option aa):Prop where
 ok: ∀d out,GoodD n d->f d=some out->GoodD n out/\(∀v∈us,∀x,x∈vals (domAt out v)↔∃g:Int->Int,(∀u∈us,g u∈vals (domAt d u))/\P (us.map g)=true/\g v=x)/\∀v,0<=v->v∉us->domAt out v=domAt d v
 no: ∀d,GoodD n d->f d=none->∀g:Int->Int,(∀u∈us,g u∈vals (domAt d u))->P (us.map g)=false
 in': ∀u∈us,0<=u/\u.toNat<n
 ne:us≠[]
theorem GoodD.ne {n:Nat}{d:aa}(h:GoodD n d){v:Int}(hv:v.toNat<n): ∃x,x∈vals (domAt d v):=by
 have hm:domAt d v∈d:=by
  unfold domAt;rw[E0,E5 (by rw[h.len];exact hv)];exact EA _
 have hok:=(h.few.fine _ hm).ok;cases hd:domAt d v with
 |nil=>rw[hd]at hm;exact EX hm h.some'
 |cons r rest=>
  rw[hd]at hok;exact⟨r.1,be.2 ⟨r,.head _,FL _,hok.1 r (.head _)⟩⟩
theorem SuppS.takes {n:Nat}{us:List Int}{P:List Int->Bool}{f:aa->Option aa}(h:SuppS n us P f):Takes leD (GoodD n) f:=by
 refine⟨λa a' ga he=> ?_,λa a' b ga gb hle he=> ?_⟩
 ·obtain⟨g1,h1,h2⟩:=h.ok a a' ga he;refine⟨g1,by rw[g1.len,ga.len],λv x h0 hx=> ?_⟩;by_cases hv:v∈us
  ·obtain⟨g,h3,_,rfl⟩:=(h1 v hv x).1 hx;exact h3 v hv
  ·rw[h2 v h0 hv]at hx;exact hx
 ·obtain⟨g1,h1,h2⟩:=h.ok a a' ga he;cases hb:f b with
  |none=>
   obtain⟨u,hu⟩:=Fq _ h.ne;have hun:=(h.in' u hu).2;obtain⟨x,hx⟩:=g1.ne hun;obtain⟨g,h3,h4,_⟩:=(h1 u hu x).1 hx;have:=h.no b gb hb g λw hw=>hle.2 w _ (h.in' w hw).1 (h3 w hw);rw[h4]at this;cases this
  |some b'=>
   obtain⟨g2,h3,h4⟩:=h.ok b b' gb hb;refine⟨b',rfl,by rw[g1.len,g2.len],λv x h0 hx=> ?_⟩;by_cases hv:v∈us;·exact(h3 v hv x).2 (qR.mono hle (λu hu=>(h.in' u hu).1) ((h1 v hv x).1 hx))
   ·rw[h2 v h0 hv]at hx;rw[h4 v h0 hv];exact hle.2 v x h0 hx
theorem Dw {n:Nat}{vars:List Int}(hv:vars.Nodup/\∀v∈vars,0<=v/\v.toNat<n)(hne:vars≠[]):SuppS n vars (λl=>decide l.Nodup) λd=>dz d vars:=by
 have hV: ∀d,GoodD n d->jj d vars:=λd hd=>⟨hv.1,λv hm=>by rw[hd.len];exact hv.2 v hm⟩;have ho: ∀d,GoodD n d->∀g:Int->Int,(∀u∈vars,g u∈vals (domAt d u))->(vars.map g).Nodup->Others (listsP d vars) λj=>g (vars.getD j 0):=λd hd g h1 h2=>by
  rw[fk hd.few];refine⟨λj hj=> ?_,λj k hj hk e=> ?_⟩
  ·rw[EB]at hj;have:=h1 _ (EA hj);simpa[hj]using this
  ·rw[EB]at hj hk;have e:g (vars.getD j 0)=g (vars.getD k 0):=e;have e2:(vars.map g)[j]'(by simpa using hj)=(vars.map g)[k]'(by simpa using hk):=(by simpa[hj,hk]using e);exact(GU h2).1 e2
 refine⟨λd out hd he=> ?_,λd hd he g hg=> ?_,?_,?_⟩
 ·unfold dz at he;split at he;·cases he
  ·split at he;·cases he
   ·rename_i hno;obtain rfl:=E7 he;have hat:=λj=>lM (d:=d) (vars:=vars) (out:=d) j hv.1 (hV d hd).2;have hdat: ∀v,v∈vars->domAt (step8 d vars vars d) v=bX (fF d vars v):=λv hm=>by
     have h0:=hv.2 v hm;have:=hat v.toNat;rw[show((v.toNat:Nat):Int)=v by omega,E6 hm]at this;unfold domAt;rw[E0,this];rfl
    refine⟨⟨⟨by rw[jW];exact hd.few.small,λx hx=> ?_,λx hx=> ?_⟩,by rw[jW,hd.len],hno⟩,λv hm x=> ?_,λv h0 hm=> ?_⟩
    ·obtain⟨j,hj⟩:=EK hx;rw[hat j]at hj;split at hj
     ·obtain⟨h1,h2,h3⟩:=mh hd.few vars (j:Int);exact E7 hj▸lq h1 h3 h2
     ·exact hd.few.fine x (EC hj)
    ·obtain⟨j,hj⟩:=EK hx;rw[hat j]at hj;split at hj
     ·obtain⟨h1,h2,h3⟩:=mh hd.few vars (j:Int);rw[<-E7 hj,bG h1];exact h2
     ·exact hd.few.few x (EC hj)
    ·rw[hdat v hm,bG (mh hd.few vars v).1];obtain⟨i,hi,rfl⟩:=G2 hm;rw[kd hd.few (hV d hd) hi];have hlen:(listsP d vars).length=vars.length:=EB ..;constructor
     ·rintro⟨g,⟨h1,h2⟩,rfl⟩;refine⟨λu=>g (vars.idxOf u),λu hu=> ?_,?_,?_⟩
      ·have hx:=H4 hu;have:=h1 (vars.idxOf u) (by omega);rw[fk hd.few]at this;simpa[hx]using this
      ·refine EF (f9 hv.1 λa ha b hb e=> ?_);have hxa:=H4 ha;have hxb:=H4 hb;have e2:=h2 _ _ (by omega) (by omega) e;have e3:vars[vars.idxOf a]=vars[vars.idxOf b]:=(by simp only[e2]);simpa using e3
      ·show g (vars.idxOf vars[i])=g i;congr 1;exact hv.1.idxOf_getElem i hi
     ·rintro⟨g,h1,h2,rfl⟩;refine⟨_,ho d hd g h1 (FO h2),?_⟩;show g (vars.getD i 0)=_;rw[E0,E5 hi];rfl
    ·by_cases hl:v.toNat<d.length
     ·have:=hat v.toNat;rw[show((v.toNat:Nat):Int)=v by omega,E4 hm]at this;unfold domAt;rw[E0,E0,this]
     ·unfold domAt;rw[E0,E0,F7 (by rw[jW];omega),F7 (by omega)]
 ·refine EE λhn=> ?_;have hoo:=ho d hd g hg hn;unfold dz at he;rw[E4 hd.some']at he;split at he
  ·rename_i hem;obtain⟨j,hj⟩:=EK hem;rw[lM j hv.1 (hV d hd).2]at hj;split at hj
   ·rename_i hm;obtain⟨i,hi,e⟩:=G2 hm;have:=(kd hd.few (hV d hd) hi _).2 ⟨_,hoo,rfl⟩;rw[e]at this;exact yF (λe2=>by rw[e2]at this;cases this) (E7 hj)
   ·exact hd.some' (EC hj)
  ·cases he
 ·exact hv.2
 ·exact hne
theorem jM {n:Nat}{a b:aa}(ga:GoodD n a)(gb:GoodD n b)(h: ∀v x:Int,0<=v->(x∈vals (domAt a v)↔x∈vals (domAt b v))):a=b:=by
 refine GN (by rw[ga.len,gb.len]) λj h1 h2=> ?_;have h3:=h (j:Int);rw[qG h1,qG h2]at h3;have f1:=(ga.few.fine _ (EA h1)).ok;have f2:=(gb.few.fine _ (EA h2)).ok;rw[<-e8 f1,<-e8 f2,dX (aG f1) (aG f2) λx=>h3 x (by omega)]
theorem aW (n:Nat):Order aa leD (GoodD n):=by
 refine⟨λa=>⟨rfl,λ_ _ _ h=>h⟩,λa b c h1 h2=>⟨h1.1.trans h2.1,λv x h0 h=>h2.2 v x h0 (h1.2 v x h0 h)⟩,λa b ga gb h1 h2=> ?_⟩;exact jM ga gb λv x h0=>⟨h1.2 v x h0,h2.2 v x h0⟩
theorem SuppS.stays {n:Nat}{us:List Int}{P:List Int->Bool}{f:aa->Option aa}(h:SuppS n us P f){a b:aa}(ga:GoodD n a)(gb:GoodD n b)(ha:f a=some a)(hab: ∀u∈us,domAt a u=domAt b u):f b=some b:=by
 obtain⟨_,h1,_⟩:=h.ok a a ga ha;have hsupp: ∀v∈us,∀x,x∈vals (domAt b v)↔∃g:Int->Int,(∀u∈us,g u∈vals (domAt b u))/\P (us.map g)=true/\g v=x:=λv hv x=>by
  rw[<-hab v hv,h1 v hv x];constructor
  ·rintro⟨g,h2,h3,h4⟩;exact⟨g,λu hu=>by rw[<-hab u hu];exact h2 u hu,h3,h4⟩
  ·rintro⟨g,h2,h3,h4⟩;exact⟨g,λu hu=>by rw[hab u hu];exact h2 u hu,h3,h4⟩
 cases hb:f b with
 |none=>
  obtain⟨u,hu⟩:=Fq _ h.ne;obtain⟨x,hx⟩:=gb.ne (h.in' u hu).2;obtain⟨g,h2,h3,_⟩:=(hsupp u hu x).1 hx;have:=h.no b gb hb g h2;rw[h3]at this;cases this
 |some b'=>
  obtain⟨g',h2,h3⟩:=h.ok b b' gb hb;congr 1;refine jM g' gb λv x h0=> ?_;by_cases hv:v∈us;·rw[h2 v hv x,hsupp v hv x]
  ·rw[h3 v h0 hv]
theorem SuppS.point {n:Nat}{us:List Int}{P:List Int->Bool}{f:aa->Option aa}(h:SuppS n us P f){e:aa}(ge:GoodD n e)(g:Int->Int)(he: ∀u∈us,vals (domAt e u)=[g u]):f e=(if P (us.map g)=true then some e else none):=by
 have huniq: ∀g':Int->Int,(∀u∈us,g' u∈vals (domAt e u))->us.map g'=us.map g:=λg' hg'=>F0 λu hu=>by
  have:=hg' u hu;rw[he u hu]at this;exact EJ.1 this
 cases hf:f e with
 |none=>
  have:=h.no e ge hf g λu hu=>(by rw[he u hu];exact .head _);rw[this];rfl
 |some e'=>
  obtain⟨g',h2,h3⟩:=h.ok e e' ge hf;have hp:P (us.map g)=true:=by
   obtain⟨u,hu⟩:=Fq _ h.ne;obtain⟨x,hx⟩:=g'.ne (h.in' u hu).2;obtain⟨q,h4,h5,_⟩:=(h2 u hu x).1 hx;rw[<-huniq q h4];exact h5
  rw[E6 hp];congr 1;refine jM g' ge λv x h0=> ?_;by_cases hv:v∈us
  ·rw[h2 v hv x,he v hv,EJ];constructor
   ·rintro⟨q,h4,_,rfl⟩;have:=h4 v hv;rw[he v hv]at this;exact EJ.1 this
   ·rintro rfl;exact⟨g,λu hu=>by rw[he u hu];exact .head _,hp,rfl⟩
  ·rw[h3 v h0 hv]
def atR (a:List Int)(v:Int):Int:=if v<0 then 0 else a.getD v.toNat 0
theorem t8 (a:List Int)(v:Int)(hl:a.length*8<=140737488355328):Spec Tryz.prog 53 false [aq a,.int .i64 v] [.val (.int .i64 (atR a v))]:=by
 refine Spec.body Tryz.func53 Y Y Y λw0 Z0=> ?_;unfold atR;refine .B ?_;refine J.g Y Y Y (λh=> ?_) (λh=> ?_)
 ·refine .B ?_;refine T.ct Y ?_;refine .B ?_;exact⟨_,.v Y Y (by rw[E6 h]) (λ_=>rfl) .nil⟩
 ·refine .B ?_;refine T.cd Y (λh2=> ?_) (λh2=> ?_)
  ·refine .B ?_;refine⟨_,.v Y Y ?_ (λ_=>rfl) .nil⟩;rw[E4 h,E0,F7 (by simp at h2;omega)];rfl
  ·have h2:v.toNat<a.length:=(by simp at h2;omega);refine .B ?_;refine J.i Y Y Y Y Y Y Y Y Y (r:=cI a[v.toNat]) (by omega) (aA h2) Y ?_;refine .B ?_;refine⟨_,.v Y Y ?_ (λ_=>rfl) .nil⟩;rw[E4 h,E0,E5 h2];rfl
def pickedR (vars a:List Int):List Int:=vars.map (atR a)
theorem vj (vars a:List Int)(hv:vars.length*8<=140737488355328)(hl:a.length*8<=140737488355328):Spec Tryz.prog 50 false [aq vars,aq a] [.own 3 1 ((pickedR vars a).map cI)]:=by
 refine Spec.body Tryz.func50 Y Y Y λw0 Z0=> ?_;refine .B ?_;refine .Q ?_;refine T.K (T.ind (λi:Nat=>⟨[(0,.val false (aq vars)),(1,.val false (aq a)),(4,.nilsl),(5,.ref 0),(6,.val true (.int .i64 i))],[(0,some (.sl 3 1 true ((pickedR (vars.take i) a).map cI)))],1⟩) (λi=>i<=vars.length) (λi=>vars.length-i) 0 (by simp) (λ_ _ h=>h) ?_);rintro i hi ih;refine .B ?_;refine T.cd Y (λh1=> ?_) (λh1=> ?_)
 ·have h1:i<vars.length:=(by simpa using h1);refine .B ?_;refine .F (r:=cI vars[i]) (aA h1) ?_;refine .D (t8 a vars[i] hl) ?_;refine .V ?_;refine J.aI Y Y Y Y Y Y Y Y Y Y Y Y Y Y Y Y Y Y Y (by simp[pickedR];omega) ?_;refine .B ?_;rw[ai (l:=vars.length) (by omega) (by omega)];have e:pickedR (vars.take i) a++[atR a vars[i]]=pickedR (vars.take (i+1)) a:=by
   rw[ED h1];unfold pickedR;rw[Ey];rfl
  rw[e];exact T.K (ih (i+1) (by omega) (by omega))
 ·have h1:i=vars.length:=(by simp at h1;omega);subst h1;refine .B ?_;refine⟨_,.o Y Y (by rw[Ej]) (λ_=> .inl Y) (by simp) .nil⟩
def dM (op n rhs:Int):Bool:=if op=0 then decide (n<=rhs)else(decide (n=rhs)==decide (op=1))
theorem Ac (op n rhs:Int):Spec Tryz.prog 51 false [.int .i64 op,.int .i64 n,.int .i64 rhs] [.val (.bool (dM op n rhs))]:=by
 refine Spec.body Tryz.func51 Y Y Y λw0 Z0=> ?_;unfold dM;refine .B ?_;refine T.cd Y (λh=> ?_) (λh=> ?_)
 ·refine .B ?_;exact⟨_,.v Y Y (by rw[E6 h]) (λ_=>rfl) .nil⟩
 ·refine .B ?_;exact⟨_,.v Y Y (by rw[E4 h]) (λ_=>rfl) .nil⟩
def sumW (vars coefs a:List Int):Int:=(vars.zip coefs).foldl (λn p=>IntKind.i64.wrap (n+IntKind.i64.wrap (p.2*atR a p.1))) 0
theorem rz (vars coefs a:List Int)(hv:vars.length*8<=140737488355328)(hc:coefs.length*8<=140737488355328)(hl:a.length*8<=140737488355328):Spec Tryz.prog 49 false [aq vars,aq coefs,aq a] [.val (.int .i64 (sumW vars coefs a))]:=by
 refine Spec.body Tryz.func49 Y Y Y λw0 Z0=> ?_;refine .B ?_;refine T.K (T.ind (λi:Nat=>⟨[(0,.val false (aq vars)),(1,.val false (aq coefs)),(2,.val false (aq a)),(7,.val true (.int .i64 (sumW (vars.take i) (coefs.take i) a))),(8,.val true (.int .i64 i))],[],0⟩) (λi=>i<=vars.length/\i<=coefs.length) (λi=>vars.length-i) 0 (by simp) (λ_ _ h=>h) ?_);rintro i ⟨hi,hi2⟩ ih;have fin: ∀(h:i=vars.length∨i=coefs.length),sumW (vars.take i) (coefs.take i) a=sumW vars coefs a:=by
  intro h;unfold sumW;rw[List.zip_eq_zipWith,List.zip_eq_zipWith,<-List.take_zipWith,EY];simp;omega
 refine .B ?_;refine J.g Y Y Y (λh=> ?_) (λh=> ?_)
 ·have h:i<vars.length:=(by simpa using h);refine .B ?_;refine T.cd Y (λh1=> ?_) (λh1=> ?_)
  ·have h1:i<coefs.length:=(by simpa using h1);refine .B ?_;refine .F (r:=cI coefs[i]) (aA h1) ?_;refine .F (r:=cI vars[i]) (aA h) ?_;refine .D (t8 a vars[i] hl) ?_;have e:IntKind.i64.wrap (sumW (vars.take i) (coefs.take i) a+IntKind.i64.wrap (coefs[i]*atR a vars[i]))=sumW (vars.take (i+1)) (coefs.take (i+1)) a:=by
    unfold sumW;rw[ED h,ED h1,List.zip_append (by simp;omega),H2];rfl
   rw[e,ai (l:=vars.length) (by omega) (by omega)];exact T.K (ih (i+1) ⟨by omega,by omega⟩ (by omega))
  ·refine .B ?_;refine⟨_,.v Y Y (by rw[fin];simp at h1;omega) (λ_=>rfl) .nil⟩
 ·refine .B ?_;refine T.cf Y ?_;refine .B ?_;refine⟨_,.v Y Y (by rw[fin];simp at h;omega) (λ_=>rfl) .nil⟩
def dS:List Int->List Int->Int
 | [],[]=>0
 | [],_::_=> -1
 |_::_,[]=>1
 |x::xs,y::ys=>if x<y then -1 else if y<x then 1 else dS xs ys
theorem xw (a b:List Int)(ha:a.length*8<=140737488355328)(hb:b.length*8<=140737488355328):Spec Tryz.prog 54 false [aq a,aq b] [.val (.int .i64 (dS a b))]:=by
 refine Spec.body Tryz.func54 Y Y Y λw0 Z0=> ?_;refine .B ?_;refine T.K (T.ind (λi:Nat=>⟨[(0,.val false (aq a)),(1,.val false (aq b)),(5,.val true (.int .i64 i))],[],0⟩) (λi=>i<=a.length/\i<=b.length/\dS (a.drop i) (b.drop i)=dS a b) (λi=>a.length-i) 0 (by simp) (λ_ _ h=>h) ?_);rintro i ⟨hi,hi2,he⟩ ih;refine .B ?_;refine J.g Y Y Y (λh=> ?_) (λh=> ?_)
 ·have h:i<a.length:=(by simpa using h);refine .B ?_;refine T.cd Y (λh1=> ?_) (λh1=> ?_)
  ·have h1:i<b.length:=(by simpa using h1);have ed:dS (a.drop i) (b.drop i)=if a[i]<b[i]then -1 else if b[i]<a[i]then 1 else dS (a.drop (i+1)) (b.drop (i+1)):=by
    rw[EQ h,EQ h1,dS]
   refine .B ?_;refine .F (r:=cI a[i]) (aA h) ?_;refine .F (r:=cI b[i]) (aA h1) ?_;refine T.cd Y (λh2=> ?_) (λh2=> ?_)
   ·refine .B ?_;refine⟨_,.v Y Y ?_ (λ_=>rfl) .nil⟩;rw[<-he,ed,E6 h2]
   ·refine .B ?_;refine .F (r:=cI a[i]) (aA h) ?_;refine .F (r:=cI b[i]) (aA h1) ?_;refine T.cd Y (λh3=> ?_) (λh3=> ?_)
    ·refine .B ?_;refine⟨_,.v Y Y ?_ (λ_=>rfl) .nil⟩;rw[<-he,ed,E4 h2,E6 h3]
    ·refine .B ?_;rw[ai (l:=a.length) (by omega) (by omega)];refine T.K (ih (i+1) ⟨by omega,by omega,?_⟩ (by omega));rw[<-he,ed,E4 h2,E4 h3]
  ·have h1:i=b.length:=(by simp at h1;omega);refine .B ?_;refine T.cd Y (λh2=> ?_) (λh2=> ?_);·exact EX h2 (by simp;omega)
   ·refine .B ?_;refine T.cd Y (λh3=> ?_) (λh3=> ?_)
    ·refine .B ?_;refine⟨_,.v Y Y ?_ (λ_=>rfl) .nil⟩;rw[<-he,h1,FK,EQ (by omega),dS]
    ·exact EX (by simp;omega) h3
 ·have h:i=a.length:=(by simp at h;omega);refine .B ?_;refine T.cf Y ?_;refine .B ?_;refine T.cd Y (λh2=> ?_) (λh2=> ?_)
  ·have h2:a.length<b.length:=(by simpa using h2);refine .B ?_;refine⟨_,.v Y Y ?_ (λ_=>rfl) .nil⟩;rw[<-he,h,FK,EQ h2,dS]
  ·have h2: ¬a.length<b.length:=(by simpa using h2);refine .B ?_;refine T.cd Y (λh3=> ?_) (λh3=> ?_);·exact EX h3 (by simp;omega)
   ·refine .B ?_;refine⟨_,.v Y Y ?_ (λ_=>rfl) .nil⟩;rw[<-he,h,FK,HP (by omega),dS]
def holds6 (vars a:List Int):Bool:=decide (dS ((pickedR vars a).take (vars.length / 2)) ((pickedR vars a).drop (vars.length / 2))<=0)
def litH (p:Int×Int):Bool:=(decide (p.2=1)&&decide (p.1=1))||(decide (p.2= -1)&&decide (p.1=0))
def yX (l:List Int):Bool:=decide (2<=l.length)&&decide (0<=l.getD 0 0)&&decide (l.getD 0 0+2<l.length)&&decide (l.getD (l.getD 0 0+2).toNat 0=l.getD 1 0)
def soR (c:Con)(a:List Int):Bool:=dM c.op (sumW c.vars c.coefs a) c.rhs
def bK (c:Con)(a:List Int):Bool:=
 if c.kind=0 then soR c a else
 if c.kind=1 then decide ((aT (pickedR c.vars a)).length=(pickedR c.vars a).length)else
 if c.kind=2 then c.rows.any λr=>decide (r=pickedR c.vars a)else
 if c.kind=3 then yX (pickedR c.vars a)else
 if c.kind=4 then(soR c a&&decide (atR a c.b=1))||(!soR c a&&decide (atR a c.b=0))else
 if c.kind=5 then((pickedR c.vars a).zip c.coefs).any litH else
 holds6 c.vars a
theorem xU (c:Con)(a:List Int)(hc:ConB c)(hl:a.length*8<=140737488355328)(hk5:c.kind=5->c.vars.length<=c.coefs.length)(hk3:c.kind=3->∀x∈a,x<=4611686018427387904):
  Spec Tryz.prog 25 false [.agg (cC c),aq a] [.val (.bool (bK c a))]:=by
 obtain⟨h1,h2,h3,h4⟩:=hc;refine Spec.body Tryz.func25 Y Y Y λw0 Z0=> ?_;have hpl:(pickedR c.vars a).length=c.vars.length:=(by simp[pickedR]);have hheld:=Ac c.op (sumW c.vars c.coefs a) c.rhs;have hso:dM c.op (sumW c.vars c.coefs a) c.rhs=soR c a:=rfl;rw[hso]at hheld;have hsort:=dI (pickedR c.vars a) (by omega);have hat:=t8 a c.b hl;have ho6:holds6 c.vars a=decide (dS ((pickedR c.vars a).take (c.vars.length / 2)) ((pickedR c.vars a).drop (c.vars.length / 2))<=0):=rfl;have hord:=xw ((pickedR c.vars a).take (c.vars.length / 2)) ((pickedR c.vars a).drop (c.vars.length / 2)) (by simp;omega) (by simp;omega);have hpk:=vj c.vars a (by omega) hl;have hsm:=rz c.vars c.coefs a (by omega) h2 hl;have hpin:c.kind=3->∀x∈pickedR c.vars a,x<=4611686018427387904:=by
  intro hk x hx;obtain⟨v,_,rfl⟩:=EH.1 hx;unfold atR;split;·omega
  ·rw[E0];cases hg:a[v.toNat]? with
   |none=>simp
   |some y=>simpa using hk3 hk y (EC hg)
 clear hso;unfold bK;generalize holds6 c.vars a=h6 at*;generalize sumW c.vars c.coefs a=sm at*;generalize soR c a=so at*;generalize pickedR c.vars a=l at*;refine .B ?_;refine .D hpk ?_;refine .D hsm ?_;refine .D hheld ?_;refine T.cd Y (λk0=> ?_) (λk0=> ?_)
 ·have k0:c.kind=0:=k0;rw[E6 k0];refine .B ?_;exact r1
 have k0: ¬c.kind=0:=k0;rw[E4 k0];refine .B ?_;refine T.cd Y (λk1=> ?_) (λk1=> ?_)
 ·have k1:c.kind=1:=k1;rw[E6 k1];refine .B ?_;refine .D hsort ?_;exact⟨_,.v Y Y (by simp;omega) (λ_=>rfl) .nil⟩
 have k1: ¬c.kind=1:=k1;rw[E4 k1];refine .B ?_;refine T.cd Y (λk2=> ?_) (λk2=> ?_)
 ·have k2:c.kind=2:=k2;rw[E6 k2];refine .B ?_;refine T.sub (Rel.frz (s:=5) (λ_ h=>h) Y Y) ?_;refine T.K (T.ind (λi:Nat=>⟨[(2,.optr 0 0 0 0),(5,.val true (aq l)),(7,.val true (.int .i64 i))],[(0,some (.box false (cC c)))],1⟩) (λi=>i<=c.rows.length/\((c.rows.take i).any λr=>decide (r=l))=false) (λi=>c.rows.length-i) 0 (by simp) (λ_ _ h=>h) ?_);rintro i ⟨hi,he⟩ ih;refine .B ?_;refine T.cd Y (λh5=> ?_) (λh5=> ?_)
  ·have h5:i<c.rows.length:=(by simpa using h5);have hrl:=h4 _ (EA h5);have hn:=c7 c.rows[i] l hrl;refine .B ?_;refine .F (r:=cL c.rows[i]) (aA h5) ?_;refine .C hn ?_;by_cases e:c.rows[i]=l
   ·have hany:(c.rows.any λr=>decide (r=l))=true:=FU.2 ⟨_,EA h5,by simp[e]⟩;rw[EF e,hany];refine .B ?_;refine T.ct Y ?_;refine .B ?_;exact r1
   ·rw[EE e];refine .B ?_;refine T.cf Y ?_;refine .B ?_;rw[ai (l:=c.rows.length) (by omega) (by omega)];exact T.K (ih (i+1) ⟨by omega,by rw[ED h5,He,he];simp[e]⟩ (by omega))
  ·have h5:i=c.rows.length:=(by simp at h5;omega);subst h5;rw[Ej]at he;rw[he];refine .B ?_;exact r1
 have k2: ¬c.kind=2:=k2;rw[E4 k2];refine .B ?_;refine T.cd Y (λk3=> ?_) (λk3=> ?_)
 ·have k3:c.kind=3:=k3;rw[E6 k3];have hpin:=hpin k3;unfold yX;refine .M ?_;refine T.sub (Rel.frz (s:=5) (λ_ h=>h) Y Y) ?_;refine .B ?_;refine J.g Y Y Y (λg1=> ?_) (λg1=> ?_)
  ·have g1:2<=l.length:=by
    have g1:((l.map cI).length:Int)>=2:=g1;simp only[EB]at g1;omega
   obtain⟨x0,hx0⟩: ∃x,l[0]? =some x:=⟨_,E5 (by omega)⟩;obtain⟨x1,hx1⟩: ∃x,l[1]? =some x:=⟨_,E5 (by omega)⟩;have e0:l.getD 0 0=x0:=(by rw[E0,hx0];rfl);have e1:l.getD 1 0=x1:=(by rw[E0,hx1];rfl);have hr0:(l.map cI)[(0:Int).toNat]? =some (cI x0):=(by simp[hx0]);have hr1:(l.map cI)[(1:Int).toNat]? =some (cI x1):=(by simp[hx1]);have hp0:=hpin x0 (EC hx0);rw[EF g1,e0,e1];refine .B ?_;refine J.i Y Y Y Y Y Y Y Y Y (r:=cI x0) (by decide) hr0 Y ?_;refine .B ?_;refine J.g Y Y Y (λg2=> ?_) (λg2=> ?_)
   ·have g2:0<=x0:=g2;have ew:IntKind.i64.wrap (x0+2)=x0+2:=ae (by omega) (by omega);rw[EF g2];refine .B ?_;refine J.i Y Y Y Y Y Y Y Y Y (r:=cI x0) (by decide) hr0 Y ?_
    repeat' first|refine J.e Y Y Y Y ?_|refine J.skip Y Y Y ?_|refine J.bx Y Y Y Y Y Y ?_
    rw[ew]
    repeat' first|refine J.e Y Y Y Y ?_|refine J.skip Y Y Y ?_|refine J.bx Y Y Y Y Y Y ?_
    refine J.g Y Y Y (λg3=> ?_) (λg3=> ?_)
    ·have g3:x0+2<l.length:=(by simpa using g3);have g4:(x0+2).toNat<l.length:=(by omega);obtain⟨x2,hx2⟩: ∃x,l[(x0+2).toNat]? =some x:=⟨_,E5 g4⟩;have e2:l.getD (x0+2).toNat 0=x2:=(by rw[E0,hx2];rfl);have hr2:(l.map cI)[(x0+2).toNat]? =some (cI x2):=(by simp[hx2]);rw[EF g3,e2];refine .B ?_;refine J.i Y Y Y Y Y Y Y Y Y (r:=cI x0) (by decide) hr0 Y ?_
     repeat' first|refine J.e Y Y Y Y ?_|refine J.skip Y Y Y ?_|refine J.bx Y Y Y Y Y Y ?_
     rw[ew];refine .F (r:=cI x2) hr2 ?_;refine J.i Y Y Y Y Y Y Y Y Y (r:=cI x1) (by decide) hr1 Y ?_;refine .B ?_;exact⟨_,.v Y Y (by simp) (λ_=>rfl) .nil⟩
    ·have g3: ¬x0+2<l.length:=(by simpa using g3);rw[EE g3];refine .B ?_;exact⟨_,.v Y Y (by simp) (λ_=>rfl) .nil⟩
   ·have g2: ¬0<=x0:=g2;rw[EE g2];refine .B ?_;exact⟨_,.v Y Y (by simp) (λ_=>rfl) .nil⟩
  ·have g1: ¬2<=l.length:=by
    have g1: ¬((l.map cI).length:Int)>=2:=g1;simp only[EB]at g1;omega
   rw[EE g1];refine .B ?_;exact⟨_,.v Y Y (by simp) (λ_=>rfl) .nil⟩
 have k3: ¬c.kind=3:=k3;rw[E4 k3];refine .B ?_;refine T.cd Y (λk4=> ?_) (λk4=> ?_)
 ·have k4:c.kind=4:=k4;rw[E6 k4];cases so
  ·refine .B ?_;refine .D hat ?_;exact⟨_,.v Y Y (by simp) (λ_=>rfl) .nil⟩
  ·refine .B ?_;refine .C hat ?_;generalize atR a c.b=ab at*;refine .B ?_;refine J.g Y Y Y (λh=> ?_) (λh=> ?_)
   ·have h:ab=1:=h;rw[EF h];refine .B ?_;exact⟨_,.v Y Y (by simp) (λ_=>rfl) .nil⟩
   ·have h: ¬ab=1:=h;rw[EE h];refine .B ?_;exact⟨_,.v Y Y (by simp) (λ_=>rfl) .nil⟩
 have k4: ¬c.kind=4:=k4;rw[E4 k4];refine .B ?_;refine T.cd Y (λk5=> ?_) (λk5=> ?_)
 ·have k5:c.kind=5:=k5;rw[E6 k5];have hk5:=hk5 k5;refine .M ?_;refine T.sub (Rel.frz (s:=5) (λ_ h=>h) Y Y) ?_;refine T.K (T.ind (λi:Nat=>⟨[(2,.optr 0 0 0 0),(5,.val true (aq l)),(8,.val true (.int .i64 i))],[(0,some (.box false (cC c)))],1⟩) (λi=>i<=l.length/\((l.zip c.coefs).take i).any litH=false) (λi=>l.length-i) 0 (by simp) (λ_ _ h=>h) ?_);rintro i ⟨hi,he⟩ ih;refine .B ?_;refine T.cd Y (λh5=> ?_) (λh5=> ?_)
  ·have h5:i<l.length:=(by simpa using h5);have h6:i<c.coefs.length:=(by omega);have hz:i<(l.zip c.coefs).length:=(by simp;omega);have eyes:litH (l[i],c.coefs[i])=true->(l.zip c.coefs).any litH=true:=λh=>FU.2 ⟨(l[i],c.coefs[i]),by rw[<-GV (h:=hz)];exact EA hz,h⟩;have eno:litH (l[i],c.coefs[i])=false->((l.zip c.coefs).take (i+1)).any litH=false:=λh=>by
    rw[ED hz,He,he,GV];simp[h]
   have edef:litH (l[i],c.coefs[i])=((decide (c.coefs[i]=1)&&decide (l[i]=1))||(decide (c.coefs[i]= -1)&&decide (l[i]=0))):=rfl;have hrl:=aA (enc:=cI) h5;have hrk:=aA (enc:=cI) h6;generalize litH (l[i],c.coefs[i])=lb at*;generalize l[i]=x at*;generalize c.coefs[i]=k at*;refine .B ?_;refine .F (r:=cI k) hrk ?_;refine J.g Y Y Y (λg1=> ?_) (λg1=> ?_)
   ·have g1:k=1:=g1;have g9: ¬k= -1:=(by omega);rw[EF g1,EE g9]at edef;refine .B ?_;refine .F (r:=cI x) hrl ?_;refine J.g Y Y Y (λg2=> ?_) (λg2=> ?_)
    ·have g2:x=1:=g2;rw[EF g2]at edef;refine .B ?_;have hb:lb=true:=(by rw[edef];rfl);rw[eyes hb];refine T.ct Y ?_;refine .B ?_;exact r1
    ·have g2: ¬x=1:=g2;rw[EE g2]at edef;refine .B ?_;refine .F (r:=cI k) hrk ?_;refine J.g Y Y Y (λg3=>EX g3 g9) (λ_=> ?_);refine .B ?_;have hb:lb=false:=(by rw[edef];rfl);refine T.cf Y ?_;refine .B ?_;rw[ai (l:=l.length) (by omega) (by omega)];exact T.K (ih (i+1) ⟨by omega,eno hb⟩ (by omega))
   ·have g1: ¬k=1:=g1;rw[EE g1]at edef;refine .B ?_;refine .F (r:=cI k) hrk ?_;refine J.g Y Y Y (λg3=> ?_) (λg3=> ?_)
    ·have g3:k= -1:=g3;rw[EF g3]at edef;refine .B ?_;refine .F (r:=cI x) hrl ?_;by_cases g4:x=0
     ·rw[EF g4]at edef⊢;have hb:lb=true:=(by rw[edef];rfl);rw[eyes hb];refine T.ct Y ?_;refine .B ?_;exact r1
     ·rw[EE g4]at edef⊢;have hb:lb=false:=(by rw[edef];rfl);refine T.cf Y ?_;refine .B ?_;rw[ai (l:=l.length) (by omega) (by omega)];exact T.K (ih (i+1) ⟨by omega,eno hb⟩ (by omega))
    ·have g3: ¬k= -1:=g3;rw[EE g3]at edef;refine .B ?_;have hb:lb=false:=(by rw[edef];rfl);refine T.cf Y ?_;refine .B ?_;rw[ai (l:=l.length) (by omega) (by omega)];exact T.K (ih (i+1) ⟨by omega,eno hb⟩ (by omega))
  ·have h5:i=l.length:=(by simp at h5;omega);subst h5;rw[EY (by simp;omega)]at he;rw[he];refine .B ?_;exact r1
 have k5: ¬c.kind=5:=k5;rw[E4 k5];refine .M ?_;have e1:IntKind.i64.wrap (((l.map cI).length:Int).tdiv 2)=((c.vars.length / 2:Nat):Int):=by
  rw[EB,hpl,GF (by omega),ae (by omega) (by omega)];simp
 rw[e1];refine T.sub (Rel.frz (s:=5) (λ_ h=>h) Y Y) ?_;refine .B ?_;refine J.s1 (enc:=cI) (c.vars.length / 2) Y Y Y Y Y Y Y Y Y (λ_=>rfl) Y (by omega) ?_;refine .B ?_;refine J.s3 (enc:=cI) (c.vars.length / 2) Y Y Y Y Y Y Y Y Y (λ_=>rfl) Y (by omega) ?_;refine .B ?_;refine .D hord ?_;exact⟨_,.v Y Y (by rw[ho6]) (λ_=>rfl) .nil⟩
def growR (d:aa):Nat->List (List Int)
 |0=>[[]]
 |n+1=>(growR d n).flatMap λa=>(vals (d.getD n [])).map λv=>a++[v]
theorem nq (d:aa): ∀(n:Nat) (a:List Int),a∈growR d n->a.length=n
 |0,a,h=>by simp[growR]at h;simp[h]
 |n+1,a,h=>by
  simp only[growR,GB,EH]at h;obtain⟨b,hb,v,_,rfl⟩:=h;simp[nq d n b hb]
theorem Ae (d:aa)(hd: ∀x∈d,DomB x)(hdl:d.length*8<=140737488355328): ∀n,n<=d.length->(∀m,m<=n->(growR d m).length*24<=140737488355328)->
  Spec Tryz.prog 46 false [ak d,.int .i64 n] [.own 24 1 ((growR d n).map cL)]:=by
 intro n
 induction n with
 |zero=>
  intro _ _;refine Spec.body Tryz.func46 Y Y Y λw0 Z0=> ?_;refine .B ?_;refine T.ct Y ?_;refine .B ?_;refine .V ?_;refine .Q ?_;exact⟨_,.o Y Y Y (λ_=> .inl Y) (by simp) .nil⟩
 |succ n ih=>
  intro hn hm;have hrec:=ih (by omega) (λm h=>hm m (by omega));have hx:=hd _ (EA (show n<d.length by omega));have hval:=bB d[n] hx.1 (by have:=hx.2.1;omega) hx.2.2;have hg:d.getD n []=d[n]:=(by rw[E0,E5 (by omega)];rfl);have hgl:=nq d n;have hG:growR d (n+1)=(growR d n).flatMap λa=>(vals d[n]).map λv=>a++[v]:=(by rw[<-hg];rfl);have h1:=hm n (by omega);have h2:=hm (n+1) (EO _);have hsub:IntKind.i64.wrap (((n+1:Nat):Int)-1)=(n:Nat):=(by rw[ae (by omega) (by omega)];omega);have hrow:(d.map cD)[((n:Nat):Int).toNat]? =some (cD d[n]):=aA (by omega);have hvl:(vals d[n]).length*16<=140737488355328:=hx.2.1;rw[hG]at h2⊢;clear hm ih hG hg;generalize growR d n=l at*;generalize vals d[n]=v at*;refine Spec.body Tryz.func46 Y Y Y λw0 Z0=> ?_;refine .B ?_;refine T.cd Y (λh=>EX h (by show¬((n+1:Nat):Int)=0;omega)) (λ_=> ?_);refine .B ?_;rw[hsub];refine .D hrec ?_;rw[hsub];refine .F (r:=cD d[n]) hrow ?_;refine .D hval ?_;refine .Q ?_;refine T.sub (Rel.frz (s:=5) (λ_ h=>h) Y Y) ?_;refine T.sub (Rel.frz (s:=6) (λ_ h=>h) Y Y) ?_;have hsum: ∀(l:List (List Int)),(l.flatMap λa=>v.map λv=>a++[v]).length=l.length*v.length:=by
   intro l
   induction l with
   |nil=>simp
   |cons a l ih=>rw[H0,EZ,ih,EB,Ef,GD];omega
  rw[hsum]at h2;refine T.K (T.ind (λi:Nat=>⟨[(5,.val true (bN l)),(6,.val true (aq v)),(7,.ref 0),(8,.val true (.int .i64 i))],[(0,some (.sl 24 1 true (((l.take i).flatMap λa=>v.map λv=>a++[v]).map cL)))],1⟩) (λi=>i<=l.length) (λi=>l.length-i) 0 (by simp) (λ_ _ h=>h) ?_);rintro i hi ih;refine .B ?_;refine T.cd Y (λh3=> ?_) (λh3=> ?_)
  ·have h3:i<l.length:=(by simpa using h3);have hil:l[i].length=n:=hgl _ (EA h3);refine .B ?_;have e0:(l.take i).flatMap (λa=>v.map λv=>a++[v])=(l.take i).flatMap (λa=>v.map λv=>a++[v])++(v.take 0).map λv=>l[i]++[v]:=(by simp);rw[e0];refine T.K (T.ind (λk:Nat=>⟨[(5,.val true (bN l)),(6,.val true (aq v)),(7,.ref 0),(8,.val true (.int .i64 i)),(9,.val true (.int .i64 k))],[(0,some (.sl 24 1 true (((l.take i).flatMap (λa=>v.map λv=>a++[v])++(v.take k).map λv=>l[i]++[v]).map cL)))],1⟩) (λk=>k<=v.length) (λk=>v.length-k) 0 (by simp) (λ_ _ h=>h) ?_);rintro k hk ih2;refine .B ?_;refine T.cd Y (λh4=> ?_) (λh4=> ?_)
   ·have h4:k<v.length:=(by simpa using h4);refine .B ?_;refine .Q ?_;refine .F (r:=cL l[i]) (aA h3) ?_;refine J.a Y Y Y Y Y Y Y Y Y Y Y Y Y Y Y Y Y jE (by show(0+List.length _)*8<=_;simp;omega) ?_;refine .B ?_;refine .F (r:=cI v[k]) (aA h4) ?_;refine .V ?_;refine J.aI Y Y Y Y Y Y Y Y Y Y Y Y Y Y Y Y Y Y Y (by omega) ?_;refine .B ?_;refine J.sub (Rel.frz (s:=52) (λ_ h=>h) Y Y) ?_;refine .B ?_;refine .V ?_;have hb:((l.take i).flatMap (λa=>v.map λv=>a++[v])++(v.take k).map λv=>l[i]++[v]).length+1<=l.length*v.length:=by
     rw[EZ,hsum,EB,Ev,Ev,FH (by omega),FH (by omega)];have:i*v.length+v.length<=l.length*v.length:=by
      rw[<-GD];exact F1 _ h3
     omega
    refine J.a1 (enc:=cL) (x:=l[i]++[v[k]]) (B:=24) Y Y Y Y Y Y Y Y Y Y Y Y Y Y Y Y Y Y Y Y (by omega) ?_;refine .B ?_;have e:(l.take i).flatMap (λa=>v.map λv=>a++[v])++((v.take k).map λv=>l[i]++[v])++[l[i]++[v[k]]]=(l.take i).flatMap (λa=>v.map λv=>a++[v])++(v.take (k+1)).map λv=>l[i]++[v]:=by
     rw[ED h4,Ey,Ez];rfl
    rw[e,ai (l:=v.length) (by omega) (by omega)];exact T.K (ih2 (k+1) (by omega) (by omega))
   ·have h4:k=v.length:=(by simp at h4;omega);subst h4;rw[Ej];refine .B ?_;have e:(l.take i).flatMap (λa=>v.map λv=>a++[v])++(v.map λv=>l[i]++[v])=(l.take (i+1)).flatMap λa=>v.map λv=>a++[v]:=by
     rw[ED h3,Hi];simp
    rw[e,ai (l:=l.length) (by omega) (by omega)];exact T.K (ih (i+1) (by omega) (by omega))
  ·have h3:i=l.length:=(by simp at h3;omega);subst h3;rw[Ej];refine .B ?_;exact⟨_,.o Y Y Y (λ_=> .inl Y) (by simp) .nil⟩
def cutW (x:List (Int×Int))(k rest:Int):List (Int×Int):=if 0<k then domCut x (-1048576) (gZ rest k)else domCut x (wr (0-gZ rest (wr (0-k)))) 1048576
theorem tU {x:List (Int×Int)}(h:aB x)(k rest:Int):aB (cutW x k rest)/\∀v,v∈vals (cutW x k rest)->v∈vals x:=by
 unfold cutW;split;·exact⟨(bR h _ _).1,λv hv=>(((bR h _ _).2 v).1 hv).1⟩
 ·exact⟨(bR h _ _).1,λv hv=>(((bR h _ _).2 v).1 hv).1⟩
theorem sL {x:List (Int×Int)}(h:Fine x)(k rest:Int):Fine (cutW x k rest):=h.cut (tU h.ok k rest).1 (tU h.ok k rest).2
def ii (low rhs:Int)(x:List (Int×Int))(k:Int):Int:=wr (rhs-wr (low-(endW x k false).1))
def fg (low rhs:Int):List (Int×Int)->aa->Bool->aa×Bool×Bool
 | [],d,ch=>(d,ch,true)
 |(v,k)::l,d,ch=>
  if cutW (domAt d v) k (ii low rhs (domAt d v) k)=[]then(d,false,false)
  else fg low rhs l (d.set v.toNat (cutW (domAt d v) k (ii low rhs (domAt d v) k))) (ch|| !decide (cutW (domAt d v) k (ii low rhs (domAt d v) k)=domAt d v))
def mostW (d:aa)(vars coefs:List Int)(rhs:Int):aa×Bool×Bool:=fg (endsW d vars coefs).1 rhs (vars.zip coefs) d false
structure SumFine (d:aa)(vars coefs:List Int):Prop where
 len:vars.length=coefs.length
 vl:vars.length*8<=140737488355328
 vin: ∀v∈vars,0<=v/\v.toNat<d.length
 ck: ∀k∈coefs,CoefOk k
 dom: ∀x∈d,Fine x
 dl:d.length*24<=140737488355328
theorem SumFine.in_ {d:aa}{vars coefs:List Int}(h:SumFine d vars coefs):SumIn d vars coefs:=⟨h.len,h.vl,h.vin,h.ck,λx hx=>(h.dom x hx).domB,h.dl⟩
theorem fz {d:aa}{i:Nat}{x:List (Int×Int)}{p:List (Int×Int)->Prop}(h: ∀z∈d,p z)(hx:p x): ∀z∈d.set i x,p z:=by
 intro z hz;rcases EV hz with hz|rfl;·exact h z hz
 ·exact hx
theorem p9 (d:aa)(vars coefs:List Int)(rhs:Int)(h:SumFine d vars coefs):
  SpecM Tryz.prog 202 54 1 (d.map cD) [aq vars,aq coefs,.int .i64 rhs] ((mostW d vars coefs rhs).1.map cD) [.bool (mostW d vars coefs rhs).2.1,.bool (mostW d vars coefs rhs).2.2]:=by
 refine SpecM.body Tryz.func202 Y Y Y (by simp[PV.flat]) λw0 v0 Z1=> ?_;have hends:=qf d vars coefs h.in_;obtain⟨hlen,hvl,hvin,hck,hdom,hdl⟩:=h;unfold mostW;generalize endsW d vars coefs=es at*;obtain⟨low,high,is⟩:=es;simp only at hends⊢;generalize hres:fg low rhs (vars.zip coefs) d false=res;refine .B ?_;refine .D hends ?_;refine T.K (T.ind (λs:Nat×aa×Bool=>⟨[(0,.ref 0),(2,.val false (aq coefs)),(3,.val false (.int .i64 rhs)),(10,.val true (.int .i64 low)),(13,.val true (.bool s.2.2)),(29,.val false (aq vars)),(30,.val true (.int .i64 (vars.map cI).length)),(31,.val true (.int .i64 s.1))],[(0,some (.sl 54 1 true (s.2.1.map cD)))],1⟩)
  (λs=>s.1<=vars.length/\fg low rhs ((vars.zip coefs).drop s.1) s.2.1 s.2.2=res/\s.2.1.length=d.length/\∀x∈s.2.1,Fine x) (λs=>vars.length-s.1) (0,d,false) ⟨by simp,hres,rfl,hdom⟩ (λ_ _ h=>h) ?_)
 rintro⟨i,d1,ch⟩ ⟨hil,he,hl1,hf1⟩ ih;simp only at hil he hl1 hf1;dsimp only;refine .B ?_;refine T.cd Y (λh1=> ?_) (λh1=> ?_)
 ·have h1:i<vars.length:=(by simpa using h1);have h2:i<coefs.length:=(by omega);have hv:=hvin _ (EA h1);have hk:=hck _ (EA h2);have hk2:=fI hk;have hvd:vars[i].toNat<d1.length:=(by omega);have hx:=hf1 _ (ac hvd);have hrow:(d1.map cD)[vars[i].toNat]? =some (cD (domAt d1 vars[i])):=(by simp[aj hvd]);have hz:i<(vars.zip coefs).length:=(by simp;omega);rw[EQ hz,GV,fg]at he;have hend:=j9 (domAt d1 vars[i]) coefs[i] false hx.domB hk;have hfl:coefs[i]≠0:=hk.1;have hng:IntKind.i64.wrap (0-coefs[i])≠0:=(by rw[ae (by omega) (by omega)];omega);have hfine:=sL hx coefs[i] (ii low rhs (domAt d1 vars[i]) coefs[i]);have hdc:=λlo hi=>(gR (domAt d1 vars[i]) lo hi (by have:=hx.len;omega)).frz;have hcw:cutW (domAt d1 vars[i]) coefs[i] (ii low rhs (domAt d1 vars[i]) coefs[i])=if 0<coefs[i]then domCut (domAt d1 vars[i]) (-1048576) (gZ (ii low rhs (domAt d1 vars[i]) coefs[i]) coefs[i])else domCut (domAt d1 vars[i]) (wr (0-gZ (ii low rhs (domAt d1 vars[i]) coefs[i]) (wr (0-coefs[i])))) 1048576:=rfl
  have hsame:=λx hxl=>eK x (domAt d1 vars[i]) hxl;generalize cutW (domAt d1 vars[i]) coefs[i] (ii low rhs (domAt d1 vars[i]) coefs[i])=cx at*;unfold ii at hcw;generalize endW (domAt d1 vars[i]) coefs[i] false=e1 at*;generalize hvi:vars[i]=v at*;generalize hki:coefs[i]=k at*;generalize domAt d1 v=dv at*;refine .B ?_;refine J.i Y Y Y Y Y Y Y Y Y (r:=cI v) (by omega) (by rw[<-hvi];exact aA h1) Y ?_;refine .B ?_;refine J.i Y Y Y Y Y Y Y Y Y (r:=cI k) (by omega) (by rw[<-hki];exact aA h2) Y ?_;refine .B ?_;refine J.io Y Y Y Y Y Y Y Y Y hv.1 (by simpa using hvd) Y ?_;refine J.lo Y Y Y Y Y Y (r:=cD dv) hrow Y ?_;refine .B ?_;refine .D hend ?_;refine J.io Y Y Y Y Y Y Y Y Y hv.1 (by simpa using hvd) Y ?_;refine J.lo Y Y Y Y Y Y (r:=cD dv) hrow Y ?_
  repeat' first|refine J.e Y Y Y Y ?_|refine J.skip Y Y Y ?_|refine J.bx Y Y Y Y Y Y ?_
  refine J.nil ?_;refine T.mid ⟨[(0,.ref 0),(2,.val false (aq coefs)),(3,.val false (.int .i64 rhs)),(10,.val true (.int .i64 low)),(13,.val true (.bool ch)),(29,.val false (aq vars)),(30,.val true (.int .i64 (vars.map cI).length)),(31,.val true (.int .i64 i)),(15,.val true (.int .i64 v)),(20,.val true (dm cx))],[(0,some (.sl 54 1 true (d1.map cD)))],1⟩ ?_ ?_
  ·refine .B ?_;refine T.cd Y (λh3=> ?_) (λh3=> ?_)
   ·have h3:0<k:=h3;rw[E6 h3]at hcw;refine .B ?_;refine J.cc Y Y Y Y Y (qw _ k hfl) Y Y ?_;refine J.cc Y Y Y Y Y (hdc _ _) Y Y ?_;rw[hcw];refine .B ?_;exact⟨rfl,[0,2,3,10,13,29,30,31,15,20],[0],rfl,rfl⟩
   ·have h3: ¬0<k:=h3;rw[E4 h3]at hcw;refine .B ?_;refine J.cc Y Y Y Y Y (qw _ _ hng) Y Y ?_;refine .B ?_;refine J.cc Y Y Y Y Y (hdc _ _) Y Y ?_;rw[hcw];refine .B ?_;exact⟨rfl,[0,2,3,10,13,29,30,31,15,20],[0],rfl,rfl⟩
  ·clear hcw;refine .B ?_;refine T.cd Y (λh4=> ?_) (λh4=> ?_)
   ·have h4:cx=[]:=(by simp at h4;exact h4);rw[E6 h4]at he;subst he;refine .B ?_;exact⟨.v Y Y Y (λh=>by cases h) (.v rfl rfl rfl (λh=>by cases h) .nil),_,rfl,rfl⟩
   ·have h4:cx≠[]:=λe=>h4 (by rw[e];rfl);rw[E4 h4]at he;have hset:=fz (p:=Fine) (i:=v.toNat) hf1 hfine;cases ch
    ·refine .B ?_;refine J.io Y Y Y Y Y Y Y Y Y hv.1 (by simpa using hvd) Y ?_;refine J.lo Y Y Y Y Y Y (r:=cD dv) hrow Y ?_;refine .B ?_;refine .D (hsame cx (by have:=hfine.len;omega)) ?_;refine J.io Y Y Y Y Y Y Y Y Y hv.1 (by simpa using hvd) Y ?_;refine J.w1 Y Y Y Y Y Y Y Y Y Y Y (λ_=>rfl) hvd ?_;refine .B ?_;rw[ai (l:=vars.length) (by omega) (by omega)];exact T.K (ih (i+1,d1.set v.toNat cx,!decide (cx=dv)) ⟨by simp only;omega,he,by simp[hl1],hset⟩ (by simp only;omega))
    ·refine .B ?_;refine J.io Y Y Y Y Y Y Y Y Y hv.1 (by simpa using hvd) Y ?_;refine J.w1 Y Y Y Y Y Y Y Y Y Y Y (λ_=>rfl) hvd ?_;refine .B ?_;rw[ai (l:=vars.length) (by omega) (by omega)];exact T.K (ih (i+1,d1.set v.toNat cx,true) ⟨by simp only;omega,he,by simp[hl1],hset⟩ (by simp only;omega))
 ·have h1:i=vars.length:=(by simp at h1;omega);subst h1;rw[FW (by simp;omega),fg]at he;subst he;refine .B ?_;exact⟨.v Y Y Y (λh=>by cases h) (.v rfl rfl rfl (λh=>by cases h) .nil),_,rfl,rfl⟩
def dP (i:Nat):Nat->List (List (Int×Int)×Int)->Int->Int
 |_,[],n=>n
 |k,t::ts,n=>dP i (k+1) ts (if k=i then n else wr (n+(endR t.1 t.2).1))
def jF (x:List Int)(k rhs rest:Int):List Int:=x.filter λv=>decide (wr (k*v)<=wr (rhs-rest))
def gP (d:aa)(vars coefs:List Int)(rhs:Int)(i:Nat):List (Int×Int):=bX (jF (vals (domAt d (vars.getD i 0))) (coefs.getD i 0) rhs (dP i 0 (af d vars coefs) 0))
def de (d:aa)(vars coefs:List Int)(rhs:Int):Nat->aa
 |0=>d
 |n+1=>(de d vars coefs rhs n).set (vars.getD n 0).toNat (gP d vars coefs rhs n)
theorem iN (d:aa)(vars coefs:List Int)(rhs:Int): ∀n,(de d vars coefs rhs n).length=d.length
 |0=>rfl
 |n+1=>by simp[de,iN d vars coefs rhs n]
theorem aO {l:List Int}{i:Nat}(h:i<l.length):l.getD i 0=l[i]:=by simp[E0,E5 h]
theorem lh (d:aa)(vars coefs:List Int)(rhs:Int)(h:SumIn d vars coefs):
  Spec Tryz.prog 205 false [ak d,aq vars,aq coefs,.int .i64 rhs] [.own 54 1 ((de d vars coefs rhs vars.length).map cD)]:=by
 refine Spec.body Tryz.func205 Y Y Y λw0 Z0=> ?_;obtain⟨hlen,hvl,hvin,hck,hdom,hdl⟩:=h;refine .B ?_;refine .D (cJ d hdl (λx hx=>(hdom x hx).2.2)) ?_;refine T.K (T.ind (λi:Nat=>⟨[(0,.val false (ak d)),(1,.val false (aq vars)),(2,.val false (aq coefs)),(3,.val false (.int .i64 rhs)),(9,.ref 0),(10,.val true (.int .i64 i))],[(0,some (.sl 54 1 true ((de d vars coefs rhs i).map cD)))],1⟩) (λi=>i<=vars.length) (λi=>vars.length-i) 0 (by simp) (λ_ _ h=>h) ?_);rintro i hil ih;refine .B ?_;refine T.cd Y (λh1=> ?_) (λh1=> ?_)
 ·have h1:i<vars.length:=(by simpa using h1);have h2:i<coefs.length:=(by omega);have hv:=hvin _ (EA h1);have hx:=hdom _ (ac hv.2);have hrow:(d.map cD)[vars[i].toNat]? =some (cD (domAt d vars[i])):=(by simp[aj hv.2]);have hat:gP d vars coefs rhs i=bX (jF (vals (domAt d vars[i])) coefs[i] rhs (dP i 0 (af d vars coefs) 0)):=by
   unfold gP;rw[aO h1,aO h2]
  have hnext:de d vars coefs rhs (i+1)=(de d vars coefs rhs i).set vars[i].toNat (gP d vars coefs rhs i):=by
   rw[de,aO h1]
  refine .B ?_;refine T.K (T.ind (λs:Nat×Int=>⟨[(0,.val false (ak d)),(1,.val false (aq vars)),(2,.val false (aq coefs)),(3,.val false (.int .i64 rhs)),(9,.ref 0),(10,.val true (.int .i64 i)),(11,.val true (.int .i64 s.2)),(12,.val true (.int .i64 s.1))],[(0,some (.sl 54 1 true ((de d vars coefs rhs i).map cD)))],1⟩)
   (λs=>s.1<=vars.length/\dP i s.1 ((af d vars coefs).drop s.1) s.2=dP i 0 (af d vars coefs) 0) (λs=>vars.length-s.1) (0,0) ⟨by simp,rfl⟩ (λ_ _ h=>h) ?_)
  rintro⟨k,n⟩ ⟨hkl,hn⟩ ih2;simp only at hkl hn;dsimp only;refine .B ?_;refine T.cd Y (λh3=> ?_) (λh3=> ?_)
  ·have h3:k<vars.length:=(by simpa using h3);have h4:k<coefs.length:=(by omega);have hvk:=hvin _ (EA h3);have hxk:=hdom _ (ac hvk.2);have hrowk:(d.map cD)[vars[k].toNat]? =some (cD (domAt d vars[k])):=(by simp[aj hvk.2]);rw[gj h3 h4,dP]at hn;refine .B ?_;refine .F (r:=cI vars[k]) (aA h3) ?_;refine J.i Y Y Y Y Y Y Y Y Y (r:=cD (domAt d vars[k])) hvk.1 hrowk Y ?_;refine .B ?_;refine .F (r:=cI coefs[k]) (aA h4) ?_;refine J.cc Y Y Y Y Y (rD _ coefs[k] hxk) Y Y ?_;generalize endR (domAt d vars[k]) coefs[k]=e1 at*;refine .B ?_;refine T.cd Y (λh5=> ?_) (λh5=> ?_)
   ·have h5: ¬k=i:=(by intro e;exact h5 (by rw[e]));rw[E4 h5]at hn;refine .B ?_;rw[ai (l:=vars.length) (by omega) (by omega)];exact T.K (ih2 (k+1,wr (n+e1.1)) ⟨by simp only;omega,hn⟩ (by simp only;omega))
   ·have h5:k=i:=by
     have h5: ¬((k:Int)≠i):=h5;omega
    rw[E6 h5]at hn;refine .B ?_;rw[ai (l:=vars.length) (by omega) (by omega)];exact T.K (ih2 (k+1,n) ⟨by simp only;omega,hn⟩ (by simp only;omega))
  ·have h3:k=vars.length:=(by simp at h3;omega);subst h3;rw[ib hlen,dP]at hn;rw[<-hn]at hat;clear ih2;have hvx:=bB (domAt d vars[i]) hx.1 (by have:=hx.2.1;omega) hx.2.2;have hvin2:=oB hx.1;have hvl2:=hx.2.1;generalize vals (domAt d vars[i])=l at*;refine .B ?_;refine .F (r:=cI vars[i]) (aA h1) ?_;refine J.i Y Y Y Y Y Y Y Y Y (r:=cD (domAt d vars[i])) hv.1 hrow Y ?_;refine .B ?_;refine .C hvx ?_;refine .Q ?_;refine T.K (T.ind (λk:Nat=>⟨[(0,.val false (ak d)),(1,.val false (aq vars)),(2,.val false (aq coefs)),(3,.val false (.int .i64 rhs)),(9,.ref 0),(10,.val true (.int .i64 i)),(11,.val true (.int .i64 n)),(16,.ref 1),(17,.ref 2),(18,.val true (.int .i64 k))],[(0,some (.sl 54 1 true ((de d vars coefs rhs i).map cD))),(1,some (.sl 3 1 true (l.map cI))),(2,some (.sl 3 1 true ((jF (l.take k) coefs[i] rhs n).map cI)))],3⟩)
    (λk=>k<=l.length) (λk=>l.length-k) 0 (by simp) (λ_ _ h=>h) ?_)
   rintro k hk ih3;refine .B ?_;refine T.cd Y (λh3=> ?_) (λh3=> ?_)
   ·have h3:k<l.length:=(by simpa using h3);have hfl:(jF (l.take k) coefs[i] rhs n).length<=k:=by
     unfold jF;refine Ei (Eu _ _) ?_;simp;omega
    have e:jF (l.take (k+1)) coefs[i] rhs n=jF (l.take k) coefs[i] rhs n++if wr (coefs[i]*l[k])<=wr (rhs-n)then [l[k]]else []:=by
     unfold jF;rw[ED h3,Fb];congr 1;by_cases hc:wr (coefs[i]*l[k])<=wr (rhs-n);·simp[hc]
     ·simp[hc]
    refine .B ?_;refine .F (r:=cI coefs[i]) (aA h2) ?_;refine J.io Y Y Y Y Y Y Y Y Y (by omega) (by simpa using h3) Y ?_;refine J.lo Y Y Y Y Y Y (r:=cI l[k]) (aA h3) Y ?_;refine .B ?_;refine T.cd Y (λh4=> ?_) (λh4=> ?_)
    ·rw[E6 h4]at e;refine .B ?_;refine J.io Y Y Y Y Y Y Y Y Y (by omega) (by simpa using h3) Y ?_;refine J.lo Y Y Y Y Y Y (r:=cI l[k]) (aA h3) Y ?_;refine .B ?_;refine .V ?_;refine J.aI Y Y Y Y Y Y Y Y Y Y Y Y Y Y Y Y Y Y Y (by omega) ?_;refine .B ?_;rw[ai (l:=l.length) (by omega) (by omega),<-e];exact T.K (ih3 (k+1) (by omega) (by omega))
    ·rw[E4 h4,FN]at e;refine .B ?_;rw[ai (l:=l.length) (by omega) (by omega),<-e];exact T.K (ih3 (k+1) (by omega) (by omega))
   ·have h3:k=l.length:=(by simp at h3;omega);subst h3;rw[Ej];have hpk:=(il (jF l coefs[i] rhs n) (λv hv=>by
     have:=hvin2 v (F6.1 hv).1;omega) (by
     have:(jF l coefs[i] rhs n).length<=l.length:=Eu _ _;omega)).frz
    rw[<-hat]at*;have hdl2:=iN d vars coefs rhs i;refine .M ?_;refine T.rdw 9 Y (by kernel_rfl) Y ?_
    repeat' first|refine J.e Y Y Y Y ?_|refine J.skip Y Y Y ?_|refine J.bx Y Y Y Y Y Y ?_
    refine .I (r:=cI vars[i]) (aA h1) ?_
    repeat' first|refine J.e Y Y Y Y ?_|refine J.skip Y Y Y ?_|refine J.bx Y Y Y Y Y Y ?_
    refine .C hpk ?_;refine J.io Y Y Y Y Y Y Y Y Y hv.1 (by simp[hdl2];omega) Y ?_;refine J.wd1 Y Y Y Y Y Y Y Y Y Y Y (z:=gP d vars coefs rhs i) (λ_=>rfl) (by omega) ?_;refine J.nil ?_;refine⟨rfl,?_⟩;refine .B ?_;rw[ai (l:=vars.length) (by omega) (by omega),<-hnext];exact T.K (ih (i+1) (by omega) (by omega))
 ·have h1:i=vars.length:=(by simp at h1;omega);subst h1;refine .B ?_;exact⟨_,.o Y Y Y (λ_=> .inl Y) (by simp) .nil⟩
end Go.Proofs.YtopcjbahjjhdmaaGreat
