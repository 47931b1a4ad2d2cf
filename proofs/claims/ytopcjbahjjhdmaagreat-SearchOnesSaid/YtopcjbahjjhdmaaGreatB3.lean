/- The texts CoreP, CoreR, CoreS, CoreT, CoreU, CoreV, CoreW, CoreX, CoreY, CoreZ, CoreZA of the workplace, joined. -/
import Derived.Test.YtopcjbahjjhdmaaGreatB2
import Derived.Laws.StructEq
import Derived.Scope
import Derived.Deep.OwnRows
import Derived.Maps.RangeRun
import Derived.MapKept
namespace Go.Proofs.YtopcjbahjjhdmaaGreat
open Go Go.RowKit
set_option linter.unusedVariables false
section
variable {K:Ctx}{x y:Code}{E:St}{Q:Exit->St->Prop}
theorem T.ct2 {f b:Bool}{o:Operand}(hc:E.f.get o=some (.val f (.bool b)))(hb:b=true)(ht:T K x E Q):T K (.cond o x y) E Q:= .cond hc (λ_=>ht) (λh=>by rw[hb]at h;cases h)
theorem T.cf2 {f b:Bool}{o:Operand}(hc:E.f.get o=some (.val f (.bool b)))(hb:b=false)(hf:T K y E Q):T K (.cond o x y) E Q:= .cond hc (λh=>by rw[hb]at h;cases h) (λ_=>hf)
end
theorem J.lo {K:Ctx}{ops:Array Oper}{dr:Bool}{o:Oper}{rest:List Oper}{sl:List (Nat×SV)}{ow:List (Nat×Option Own)}{nx:Nat}{R:St->Prop}{d:Nat}{t:TypeId}{x:Operand}{q i off st:Nat}{e:TypeId}{fr:Bool}{rows:List (List PV)}{r:List PV}{p:PV}
  (ho:o.op= .load t x) (hg:wants ops (St.mk sl ow nx).f o=some true) (hd:o.dst=some d) (hlt:K.can d=true) (hx:(St.mk sl ow nx).f.get x=some (.optr q i off st)) (hq:(St.mk sl ow nx).f.own q=some (.sl e st fr rows))
  (hr:rows[i]? =some r) (hp:iq K.P t (r.drop off)=some p) (k:J K ops dr rest ⟨(d,mkv fr p)::sl,ow,nx⟩ R):J K ops dr (o::rest) ⟨sl,ow,nx⟩ R:=
 .does hg hd hlt (.ev (by simp[ev,ho,hx,EnvF.cellsAt,hq,Own.at_,hr,hp])) k
theorem J.cc {K:Ctx}{ops:Array Oper}{dr:Bool}{o:Oper}{rest:List Oper}{sl:List (Nat×SV)}{ow:List (Nat×Option Own)}{nx:Nat}{R:St->Prop}{d:Nat}
  {x:Operand} {args:Array Operand} {tys:Array TypeId} {f:FuncId} {first caps ps ps':List PV} {al fx:Bool} {res:List RV} (ho:o.op= .call { callee:= .value x,args:=args,argTypes:=tys }) (hg:wants ops (St.mk sl ow nx).f o=some true) (hd:o.dst=some d) (hlt:K.can d=true)
  (hx:(St.mk sl ow nx).f.get x=some (.val fx (.fn (.func f) first caps))) (hspec:Spec K.P f al ps' res) (ha:bW (St.mk sl ow nx).f al args.toList=some ps) (he:first++ps++caps=ps')
  (q:J K ops dr rest ⟨(d,RV.one (!al) nx res)::sl,cw nx (RV.owns (!al) res) ow,nx+(RV.owns (!al) res).length⟩ R):J K ops dr (o::rest) ⟨sl,ow,nx⟩ R:=
 .c ho hg hd hlt hx (he▸hspec) ha q
def jA (P:Program):Nat->List Field->Bool
 |_,[]=>true
 |k,f::fs=>f.name != "_" &&Nat.beq f.offset k&&(match P.underlying f.type with|some (.int _)=>true|_=>false)&&jA P (k+1) fs
theorem oo {P:Program}(d:Nat)(w:World)(as bs:List Int): ∀(fs:List Field) (k:Nat),jA P k fs=true->as.length=k+fs.length->bs.length=k+fs.length->
  (Op.eqFields (d+1) (as.map (Value.int .i64)).toArray (bs.map (Value.int .i64)).toArray fs).run P w= .ok (decide (as.drop k=bs.drop k)) w
 | [],k,_,ha,hb=>by
  simp only[Ee,F1]at ha hb;rw[Ef (by omega),Ef (by omega)];rfl
 |f::fs,k,h,ha,hb=>by
  simp only[jA,DJ,bne_iff_ne]at h;simp only[Dp]at ha hb;obtain⟨⟨⟨h1,h2⟩,h3⟩,h4⟩:=h;have h2:=EV h2;have hk1:k<as.length:=(by omega);have hk2:k<bs.length:=(by omega);have ih:=oo d w as bs fs (k+1) h4 (by omega) (by omega);split at h3
  ·rename_i kk hu;have hagg:(isAgg f.type).run P w= .ok false w:=l7 hu w;have hp: ∀(l:List Int) (h:k<l.length),(part f.type (l.map (Value.int .i64)).toArray f.offset).run P w= .ok (.int .i64 l[k]) w:=by
    intro l hl;simp[part,hagg,h2,hl]
   simp only[Op.eqFields,D4 h1,DK,hp as hk1,hp bs hk2,DA,run_equalIn_int w d f.type .i64 kk _ _ hu];have e3:(as.drop k=bs.drop k)↔(as[k]=bs[k]/\as.drop (k+1)=bs.drop (k+1)):=by
    rw[DQ hk1,DQ hk2,List.cons.injEq]
   by_cases e:as[k]=bs[k];·simp[e,ih,e3]
   ·simp[e,e3]
  ·cases h3
theorem sT {w:World}{Z:Nat->Prop}: ∀{as:List Int} {vs:List Value},L2 (Rep w Z) vs (as.map (PV.int .i64))->vs=as.map (Value.int .i64)
 | [],_,.nil=>rfl
 |a::as,_,.cons h hr=>by
  cases h;rw[sT hr];rfl
theorem J.se {K:Ctx}{ops:Array Oper}{dr:Bool}{o:Oper}{rest:List Oper}{sl:List (Nat×SV)}{ow:List (Nat×Option Own)}{nx:Nat}{R:St->Prop}{d:Nat}{op:BinOp}{t yt:TypeId}{x y:Operand}{f1 f2:Bool}{cs ds:List PV}(as bs:List Int)
  (ho:o.op= .binOp op t x y yt) (hg:wants ops (St.mk sl ow nx).f o=some true) (hd:o.dst=some d) (hlt:K.can d=true) (hx:(St.mk sl ow nx).f.get x=some (.val f1 (.agg cs))) (hy:(St.mk sl ow nx).f.get y=some (.val f2 (.agg ds)))
  (hc:cs=as.map (PV.int .i64)) (hd2:ds=bs.map (PV.int .i64)) (hS:K.P.underlying t=some (.struct (K.P.fieldsOf t))) (hp:K.P.stoodInHeld t=false) (hG:K.P.eqGuardType K.P.depth t=false) (hi:jA K.P 0 (K.P.fieldsOf t).toList=true) (hl:as.length=(K.P.fieldsOf t).toList.length) (hl2:bs.length=(K.P.fieldsOf t).toList.length) (hop:op= .eql∨op= .neq)
  (k:J K ops dr rest ⟨(d,.val true (.bool (match op with| .eql=>decide (as=bs)|_=> !decide (as=bs))))::sl,ow,nx⟩ R):J K ops dr (o::rest) ⟨sl,ow,nx⟩ R:=by
 refine .does hg hd hlt (.gen (xs:=[x,y]) (l:=[.agg cs,.agg ds]) ?_ ?_ ?_) k;·rw[ho];simp[Op.operands]
 ·simp[du,hx,hy,SV.ff]
 ·intro a w hr;subst hc hd2;cases hr with
  |cons h1 hr=>
  cases hr with
  |cons h2 _=>
  generalize hv1:a.eval x=v1 at h1;generalize hv2:a.eval y=v2 at h2;cases h1 with
  |agg us _ hu hu1=>
  cases h2 with
  |agg ws _ hw hw1=>
  obtain rfl:=sT hu;obtain rfl:=sT hw;have he:(Op.equalIn 10000 t (.agg (as.map (Value.int .i64)).toArray) (.agg (bs.map (Value.int .i64)).toArray)).run K.P w= .ok (decide (as=bs)) w:=by
   rw[show(10000:Nat)=9998+1+1 from Y,run_equalIn_agg w _ t _ _ hS hp];have:=oo (P:=K.P) 9998 w as bs (K.P.fieldsOf t).toList 0 hi (by omega) (by omega);simpa using this
  have hge:=run_eqGuard_agg (P:=K.P) w op t x y (as.map (Value.int .i64)).toArray (bs.map (Value.int .i64)).toArray hG;rcases hop with rfl|rfl;·exact⟨_,by simp only[execOp,ho,hv1,hv2,DK,hge,DA,run_eql_struct,he];rfl,λZ=> .bool _⟩
  ·exact⟨_,by simp only[execOp,ho,hv1,hv2,DK,hge,DA,run_neq_struct,he];rfl,λZ=> .bool _⟩
theorem CG {α:Type}{enc:α->List PV}{l:List α}{x:α}{p:List PV}(h:enc x=p):l.map enc++[p]=(l++[x]).map enc:=by simp[h]
theorem c9 {α:Type}{r:List α}{n:Nat}(h:r.length=n): ∀x∈[r],x.length=n:=by
 intro x hx;simp at hx;subst hx;exact h
theorem aO {α:Type}{enc:α->List PV}{l:List α}{i:Nat}(h:i<l.length):(l.map enc)[((i:Nat):Int).toNat]? =some (enc l[i]):=by simp[h]
theorem T.listI {K:Ctx}{c:Code}{Q:Exit->St->Prop}{α:Type}(l:List α)(Inv:List α->Prop)(Es:Nat->List α->List α->St)(hg: ∀l E,¬Q (.goto l) E)(h0:Inv [])
  (step: ∀n pre x post,l=pre++x::post->n=pre.length->Inv pre->(Inv (pre++[x])->T K (.loop c) (Es (n+1) (pre++[x]) post) Q)->T K c (Es n pre (x::post)) (lp K c Q))
  (fin:Inv l->T K c (Es l.length l []) (lp K c Q)):T K (.loop c) (Es 0 [] l) Q:=by
 have key: ∀post pre n,l=pre++post->n=pre.length->Inv pre->T K (.loop c) (Es n pre post) Q:=by
  intro post
  induction post with
  |nil=>
   intro pre n h hn hi;rw[Ex]at h;subst h hn;exact .loop hg (fin hi)
  |cons x post ih=>
   intro pre n h hn hi;exact .loop hg (step n pre x post h hn hi λhi2=>ih (pre++[x]) (n+1) (by simp[h]) (by simp[hn]) hi2)
 exact key l [] 0 Y Y h0
theorem Rel.flat {K:Ctx}{sl:List (Nat×SV)}{ow:List (Nat×Option Own)}{nx:Nat}{o:Nat}{e:TypeId}{sz:Nat}{fr:Bool}{rows:List (List PV)}(ho:(St.mk sl ow nx).f.own o=some (.sl e sz fr rows))(hf: ∀r∈rows,∀p∈r,p.flat=true)(a:Act)(w:World)(h:Rel K ⟨sl,ow,nx⟩ a w):
  Rel K ⟨sl,(o,some (.sl e sz true rows))::ow,nx⟩ a w:=by
 obtain⟨φ,hφ⟩:=h;have hown': ∀q c,(St.mk sl ((o,some (.sl e sz true rows))::ow) nx).f.own q=some c->(q=o/\c= .sl e sz true rows)∨(q≠o/\(St.mk sl ow nx).f.own q=some c):=by
  intro q c hq;simp only[St.f,ai]at hq;by_cases e:o=q;·rw[D4 e]at hq;exact .inl ⟨e.symm,(D3 hq).symm⟩
  ·rw[D2 e]at hq;exact .inr ⟨Ne.symm e,hq⟩
 have hdom: ∀q c,(St.mk sl ((o,some (.sl e sz true rows))::ow) nx).f.own q=some c->∃c',(St.mk sl ow nx).f.own q=some c':=by
  intro q c hq;rcases hown' q c hq with ⟨rfl,_⟩|⟨_,h⟩;·exact⟨_,ho⟩
  ·exact⟨_,h⟩
 have hZ: ∀f b,Zf K (St.mk sl ow nx).f φ f b->Zf K (St.mk sl ((o,some (.sl e sz true rows))::ow) nx).f φ f b:=
  λf b hb=>⟨⟨hb.1.1,λq c hq=>by obtain⟨c',hq'⟩:=hdom q c hq;exact hb.1.2 q c' hq'⟩,hb.2⟩
 refine⟨φ,hφ.df,hφ.sz,hφ.old,hφ.kept,?_,?_,?_,?_,?_,?_⟩
 ·intro q c hq;rcases hown' q c hq with ⟨rfl,rfl⟩|⟨_,h⟩
  ·obtain⟨xs,hwn,hl,h1,h2⟩:=hφ.own q _ ho;refine⟨xs,hwn,?_,h1,h2⟩;have: ∀(xs:List Value) (ps:List PV),L2 (Rep w (Zf K (St.mk sl ow nx).f φ fr)) xs ps->(∀p∈ps,p.flat=true)->L2 (Rep w (Zf K (St.mk sl ((q,some (.sl e sz true rows))::ow) nx).f φ true)) xs ps:=by
    intro xs ps h
    induction h with
    |nil=>intro _;exact .nil
    |cons h _ ih=>intro hp;exact .cons (h.flat (hp _ (.head _))) (ih λp hm=>hp p (.tail _ hm))
   exact this _ _ hl λp hp=>by
    obtain⟨r,hr,hp⟩:=Ft.1 hp;exact hf r hr p hp
  ·exact(hφ.own q c h).mono (λ_ _=>rfl) λf b hb _=>⟨hZ f b hb,rfl⟩
 ·intro q c g hq;obtain⟨c',hq'⟩:=hdom q c hq;exact hφ.mine q c' g hq'
 ·intro q c hq;obtain⟨c',hq'⟩:=hdom q c hq;exact hφ.inU q c' hq'
 ·intro q q' c c' g hq hq';obtain⟨c1,hq1⟩:=hdom q c hq;obtain⟨c2,hq2⟩:=hdom q' c' hq';exact hφ.dis q q' c1 c2 g hq1 hq2
 ·intro t sv hsv;obtain⟨v,hv,hr⟩:=hφ.slot t sv hsv;exact⟨v,hv,hr.mono (hφ.sin t sv hsv) (λf b hb _=>⟨hZ f b hb,rfl⟩) (λ_ _=>rfl)⟩
 ·exact hφ.sin
theorem J.s1 {K:Ctx}{ops:Array Oper}{dr:Bool}{o:Oper}{rest:List Oper}{sl:List (Nat×SV)}{ow:List (Nat×Option Own)}{nx:Nat}{R:St->Prop}{d:Nat}{α:Type}{enc:α->List PV}{l:List α}{t:TypeId}{x y:Operand}{sx:SV}{fr fh:Bool}{e:TypeId}{inf:TypeInfo}{h:Int}{kh:IntKind}(n:Nat)
  (ho:o.op= .slice t x none (some y) none) (hg:wants ops (St.mk sl ow nx).f o=some true) (hd:o.dst=some d) (hlt:K.can d=true)
  (hx:(St.mk sl ow nx).f.get x=some sx) (hr:sx.ff=some (fr,.sl (l.map enc))) (hu:K.P.underlying t=some (.slice e)) (hinf:K.P.info? e=some inf) (hy:(St.mk sl ow nx).f.get y=some (.val fh (.int kh h)))
  (h3: ∀z,(enc z).length=inf.size) (hh:h=(n:Nat)) (hn:n<=l.length)
  (q:J K ops dr rest ⟨(d,.val fr (.sl ((l.take n).map enc)))::sl,ow,nx⟩ R):J K ops dr (o::rest) ⟨sl,ow,nx⟩ R:=by
 refine J.s (l:=0) (h:=h) (fl:=true) (kl:= .i64) ho hg hd hlt hx hr hu hinf (.inl ⟨rfl,rfl⟩) (.inr ⟨y,rfl,hy⟩) (by omega) (by omega) (by simp;omega) (λr hr=> ?_) ?_
 ·obtain⟨z,_,rfl⟩:=DF.1 hr;exact h3 z
 ·rw[hh];simpa[G1]using q
def only (E':St)(e:Exit)(E:St):Prop:=e= .normal/\∃keep os,dup (gV E.f os)=false/\kF E keep os=E'
theorem T.mid {K:Ctx}{x y:Code}{E:St}{Q:Exit->St->Prop}(E':St)(hx:T K x E (only E'))(hy:T K y E' Q):T K (.seq x y) E Q:=by
 refine .seq (hx.mono ?_);rintro e E2 ⟨rfl,keep,os,hd,rfl⟩;exact T.canon hd hy
theorem k6: ∀(ps pre cs:List PV),cs.length=ps.length->putCells (pre++cs) pre.length ps=pre++ps
 | [],pre,cs,h=>by
  have:cs=[]:=DP h;simp[putCells,this]
 |p::ps,pre,[],h=>by simp at h
 |p::ps,pre,c::cs,h=>by
  simp only[putCells];have e:(pre++c::cs).set pre.length p=(pre++[p])++cs:=(by simp);rw[e];have:=k6 ps (pre++[p]) cs (by simpa using h);simp only[DX,EW]at this;rw[this];simp
theorem J.w1 {K:Ctx}{ops:Array Oper}{o:Oper}{rest:List Oper}{sl:List (Nat×SV)}{ow:List (Nat×Option Own)}{nx:Nat}{R:St->Prop}{α:Type}{enc:α->List PV}{l:List α}{z:α}{t e:TypeId}{x y:Operand}{q i st:Nat}{fr:Bool}{sy:SV}{fp:Bool}{p:PV}{inf:TypeInfo}
  (ho:o.op= .store t x y) (hg:wants ops (St.mk sl ow nx).f o=some true) (hd:o.dst=none) (hx:(St.mk sl ow nx).f.get x=some (.optr q i 0 st)) (hq:(St.mk sl ow nx).f.own q=some (.sl e st fr (l.map enc))) (hy:(St.mk sl ow nx).f.get y=some sy) (hp:sy.ff=some (fp,p))
  (hi:K.P.info? t=some inf) (hs:p.cells.length=inf.size) (hst:inf.size=st) (hz:p.cells=enc z) (hl: ∀y,(enc y).length=st) (hlt:i<l.length) (k:J K ops false rest ⟨sl,(q,some (.sl e st (fr&&fp) ((l.set i z).map enc)))::ow,nx⟩ R):J K ops false (o::rest) ⟨sl,ow,nx⟩ R:=by
 refine J.w ho hg hd hx hq hy hp hi hs ?_ k;have h1:Nat.beq st st=true:=HB st;have hzl:(enc z).length=st:=hl z;have h2:Nat.ble (0+p.cells.length) (enc l[i]).length=true:=(by simp[hz,hl]);have h3:putCells (enc l[i]) 0 p.cells=enc z:=by
  have:=k6 p.cells [] (enc l[i]) (by simp[hz,hl]);rw[hz]at this⊢;simpa using this
 have h4:(l.map enc)[i]? =some (enc l[i]):=(by simp[hlt]);simp only[Own.put,h1,h4,h2,h3,Fz]
theorem J.al {K:Ctx}{ops:Array Oper}{dr:Bool}{o:Oper}{rest:List Oper}{sl:List (Nat×SV)}{ow:List (Nat×Option Own)}{nx:Nat}{R:St->Prop}{d:Nat}{t:TypeId}{ps:List PV}{inf:TypeInfo}{z:Value}
  (ho:o.op= .alloc t) (hg:wants ops (St.mk sl ow nx).f o=some true) (hd:o.dst=some d) (hlt:K.can d=true) (hi:K.P.info? t=some inf) (hz:inf.zero=some z) (hps:gg z.cells.toList=some ps)
  (q:J K ops dr rest ⟨(d,.optr nx 0 0 0)::sl,(nx,some (.box true ps))::ow,nx+1⟩ R):J K ops dr (o::rest) ⟨sl,ow,nx⟩ R:=
 .does hg hd hlt (.alloc ho hi hz hps) q
theorem J.a1 {K:Ctx}{ops:Array Oper}{o:Oper}{rest:List Oper}{sl:List (Nat×SV)}{ow:List (Nat×Option Own)}{nx:Nat}{R:St->Prop}{d:Nat}{args:Array Operand}{tys:Array TypeId}{s y:Operand}{t e:TypeId}{q sz:Nat}{fr fy:Bool}{α:Type}{enc:α->List PV}{l:List α}{x:α}{r:List PV}{sy:SV}{inf:TypeInfo}{z:Value}{B:Nat}
  (ho:o.op= .call { callee:= .builtin .append,args:=args,argTypes:=tys }) (ha:args.toList=[s,y]) (ht:tys.toList=[t,t]) (hg:wants ops (St.mk sl ow nx).f o=some true) (hd:o.dst=some d) (hlt:K.can d=true)
  (hs:(St.mk sl ow nx).f.get s=some (.ref q)) (hq:(St.mk sl ow nx).f.own q=some (.sl e sz fr (l.map enc))) (hy:(St.mk sl ow nx).f.get y=some sy) (hp:(St.mk sl ow nx).f.pvf sy=some (fy,.sl [r]))
  (hu:K.P.underlying t=some (.slice e)) (hi:K.P.info? e=some inf) (hsz:inf.size=sz) (hz:inf.zero=some z) (hzs:z.cells.size=sz) (h0:Nat.blt 0 sz=true) (hb1:Nat.ble 1 inf.bytes=true) (hr:r.length=sz) (hB:inf.bytes=B)
  (hx:r=enc x) (hby:(l.length+1)*B<=140737488355328)
  (k:J K ops false rest ⟨(d,.ref nx)::sl,(nx,some (.sl e sz (fr&&fy) ((l++[x]).map enc)))::(q,none)::ow,nx+1⟩ R):J K ops false (o::rest) ⟨sl,ow,nx⟩ R:=by
 have h:=J.a ho ha ht hg hd hlt hs hq hy hp hu hi hsz hz hzs h0 hb1 (c9 hr) (by rw[hB];simpa using hby) (rest:=rest) (R:=R);rw[CG hx.symm]at h;exact h k
section
variable {K:Ctx}{ops:Array Oper}{o:Oper}{rest:List Oper}{sl:List (Nat×SV)}{ow:List (Nat×Option Own)}{nx:Nat}{R:St->Prop}{d:Nat}{args:Array Operand}{tys:Array TypeId}{s y:Operand}{t e:TypeId}{q:Nat}{fr fy:Bool}{r:List PV}{sy:SV}{inf:TypeInfo}{z:Value}
theorem J.aI {l:List Int}{x:Int}
  (ho:o.op= .call { callee:= .builtin .append,args:=args,argTypes:=tys }) (ha:args.toList=[s,y]) (ht:tys.toList=[t,t]) (hg:wants ops (St.mk sl ow nx).f o=some true) (hd:o.dst=some d) (hlt:K.can d=true)
  (hs:(St.mk sl ow nx).f.get s=some (.ref q)) (hq:(St.mk sl ow nx).f.own q=some (.sl e 1 fr (l.map cI))) (hy:(St.mk sl ow nx).f.get y=some sy) (hp:(St.mk sl ow nx).f.pvf sy=some (fy,.sl [r]))
  (hu:K.P.underlying t=some (.slice e)) (hi:K.P.info? e=some inf) (hsz:inf.size=1) (hz:inf.zero=some z) (hzs:z.cells.size=1) (hb1:Nat.ble 1 inf.bytes=true) (hr:r.length=1) (hB:inf.bytes=8)
  (hx:r=cI x) (hby:(l.length+1)*8<=140737488355328)
  (k:J K ops false rest ⟨(d,.ref nx)::sl,(nx,some (.sl e 1 (fr&&fy) ((l++[x]).map cI)))::(q,none)::ow,nx+1⟩ R):J K ops false (o::rest) ⟨sl,ow,nx⟩ R:=
 J.a1 ho ha ht hg hd hlt hs hq hy hp hu hi hsz hz hzs Y hb1 hr hB hx hby k
theorem J.aR {l:List (Int×Int)}{a b:Int}
  (ho:o.op= .call { callee:= .builtin .append,args:=args,argTypes:=tys }) (ha:args.toList=[s,y]) (ht:tys.toList=[t,t]) (hg:wants ops (St.mk sl ow nx).f o=some true) (hd:o.dst=some d) (hlt:K.can d=true)
  (hs:(St.mk sl ow nx).f.get s=some (.ref q)) (hq:(St.mk sl ow nx).f.own q=some (.sl e 2 fr (l.map cR))) (hy:(St.mk sl ow nx).f.get y=some sy) (hp:(St.mk sl ow nx).f.pvf sy=some (fy,.sl [r]))
  (hu:K.P.underlying t=some (.slice e)) (hi:K.P.info? e=some inf) (hsz:inf.size=2) (hz:inf.zero=some z) (hzs:z.cells.size=2) (hb1:Nat.ble 1 inf.bytes=true) (hr:r.length=2) (hB:inf.bytes=16)
  (hx:r=cR (a,b)) (hby:(l.length+1)*16<=140737488355328)
  (k:J K ops false rest ⟨(d,.ref nx)::sl,(nx,some (.sl e 2 (fr&&fy) ((l++[(a,b)]).map cR)))::(q,none)::ow,nx+1⟩ R):J K ops false (o::rest) ⟨sl,ow,nx⟩ R:=
 J.a1 ho ha ht hg hd hlt hs hq hy hp hu hi hsz hz hzs Y hb1 hr hB hx hby k
theorem J.aD {l:List (List (Int×Int))}{x:List (Int×Int)}
  (ho:o.op= .call { callee:= .builtin .append,args:=args,argTypes:=tys }) (ha:args.toList=[s,y]) (ht:tys.toList=[t,t]) (hg:wants ops (St.mk sl ow nx).f o=some true) (hd:o.dst=some d) (hlt:K.can d=true)
  (hs:(St.mk sl ow nx).f.get s=some (.ref q)) (hq:(St.mk sl ow nx).f.own q=some (.sl e 1 fr (l.map cD))) (hy:(St.mk sl ow nx).f.get y=some sy) (hp:(St.mk sl ow nx).f.pvf sy=some (fy,.sl [r]))
  (hu:K.P.underlying t=some (.slice e)) (hi:K.P.info? e=some inf) (hsz:inf.size=1) (hz:inf.zero=some z) (hzs:z.cells.size=1) (hb1:Nat.ble 1 inf.bytes=true) (hr:r.length=1) (hB:inf.bytes=24)
  (hx:r=cD x) (hby:(l.length+1)*24<=140737488355328)
  (k:J K ops false rest ⟨(d,.ref nx)::sl,(nx,some (.sl e 1 (fr&&fy) ((l++[x]).map cD)))::(q,none)::ow,nx+1⟩ R):J K ops false (o::rest) ⟨sl,ow,nx⟩ R:=
 J.a1 ho ha ht hg hd hlt hs hq hy hp hu hi hsz hz hzs Y hb1 hr hB hx hby k
end
theorem J.am {K:Ctx}{ops:Array Oper}{o:Oper}{rest:List Oper}{sl:List (Nat×SV)}{ow:List (Nat×Option Own)}{nx:Nat}{R:St->Prop}{d:Nat}{args:Array Operand}{tys:Array TypeId}{s y:Operand}{t e:TypeId}{q sz:Nat}{fr fy:Bool}{α:Type}{enc:α->List PV}{l l2:List α}{sy:SV}{inf:TypeInfo}{z:Value}{B:Nat}
  (ho:o.op= .call { callee:= .builtin .append,args:=args,argTypes:=tys }) (ha:args.toList=[s,y]) (ht:tys.toList=[t,t]) (hg:wants ops (St.mk sl ow nx).f o=some true) (hd:o.dst=some d) (hlt:K.can d=true)
  (hs:(St.mk sl ow nx).f.get s=some (.ref q)) (hq:(St.mk sl ow nx).f.own q=some (.sl e sz fr (l.map enc))) (hy:(St.mk sl ow nx).f.get y=some sy) (hp:(St.mk sl ow nx).f.pvf sy=some (fy,.sl (l2.map enc)))
  (hu:K.P.underlying t=some (.slice e)) (hi:K.P.info? e=some inf) (hsz:inf.size=sz) (hz:inf.zero=some z) (hzs:z.cells.size=sz) (h0:Nat.blt 0 sz=true) (hb1:Nat.ble 1 inf.bytes=true) (hr: ∀x,(enc x).length=sz) (hB:inf.bytes=B)
  (hby:(l.length+l2.length)*B<=140737488355328)
  (k:J K ops false rest ⟨(d,.ref nx)::sl,(nx,some (.sl e sz (fr&&fy) ((l++l2).map enc)))::(q,none)::ow,nx+1⟩ R):J K ops false (o::rest) ⟨sl,ow,nx⟩ R:=by
 have h:=J.a ho ha ht hg hd hlt hs hq hy hp hu hi hsz hz hzs h0 hb1 (λr hr'=>by obtain⟨x,_,rfl⟩:=DF.1 hr';exact hr x) (by rw[hB];simpa using hby) (rest:=rest) (R:=R);rw[<-EC]at h;exact h k
theorem J.s2 {K:Ctx}{ops:Array Oper}{dr:Bool}{o:Oper}{rest:List Oper}{sl:List (Nat×SV)}{ow:List (Nat×Option Own)}{nx:Nat}{R:St->Prop}{d:Nat}{α:Type}{enc:α->List PV}{l:List α}{t:TypeId}{x y1 y:Operand}{sx:SV}{fr fl fh:Bool}{e:TypeId}{inf:TypeInfo}{lo h:Int}{kl kh:IntKind}(m n:Nat)
  (ho:o.op= .slice t x (some y1) (some y) none) (hg:wants ops (St.mk sl ow nx).f o=some true) (hd:o.dst=some d) (hlt:K.can d=true)
  (hx:(St.mk sl ow nx).f.get x=some sx) (hr:sx.ff=some (fr,.sl (l.map enc))) (hu:K.P.underlying t=some (.slice e)) (hinf:K.P.info? e=some inf) (hy1:(St.mk sl ow nx).f.get y1=some (.val fl (.int kl lo))) (hy:(St.mk sl ow nx).f.get y=some (.val fh (.int kh h)))
  (h3: ∀z,(enc z).length=inf.size) (hl1:lo=(m:Nat)) (hh:h=(n:Nat)) (hmn:m<=n) (hn:n<=l.length)
  (q:J K ops dr rest ⟨(d,.val fr (.sl (((l.take n).drop m).map enc)))::sl,ow,nx⟩ R):J K ops dr (o::rest) ⟨sl,ow,nx⟩ R:=by
 refine J.s (l:=lo) (h:=h) (fl:=fl) (kl:=kl) ho hg hd hlt hx hr hu hinf (.inr ⟨y1,rfl,hy1⟩) (.inr ⟨y,rfl,hy⟩) (by omega) (by omega) (by simp;omega) (λr hr=> ?_) ?_
 ·obtain⟨z,_,rfl⟩:=DF.1 hr;exact h3 z
 ·rw[hh,hl1];simpa[G1,List.map_drop]using q
theorem ce {α β:Type}{f:α->β}{l pre post:List α}{x:α}{n:Nat}(h:l=pre++x::post)(hn:n=pre.length):decide ((n:Int)<((l.map f).length:Nat))=true:=by
 subst h hn;simp;omega
theorem bA {α β:Type}{f:α->β}{l:List α}:decide ((l.length:Int)<((l.map f).length:Nat))=false:=by simp
theorem cg {α:Type}{l pre post:List α}{x:α}{n:Nat}(h:l=pre++x::post)(hn:n=pre.length):n<l.length:=by
 subst h hn;simp
theorem ak {l n:Nat}(h:n<l)(hl:l*8<=140737488355328):IntKind.i64.wrap ((n:Int)+1)=((n+1:Nat):Int):=by
 rw[af (by omega) (by omega)];rfl
set_option linter.unusedSimpArgs false
section
variable {K:Ctx}{ops:Array Oper}{dr:Bool}{o:Oper}{rest:List Oper}{sl:List (Nat×SV)}{ow:List (Nat×Option Own)}{nx:Nat}{R:St->Prop}{d:Nat}
theorem J.s3 {α:Type}{enc:α->List PV}{l:List α}{t:TypeId}{x y1:Operand}{sx:SV}{fr fl:Bool}{e:TypeId}{inf:TypeInfo}{lo:Int}{kl:IntKind}(m:Nat)
  (ho:o.op= .slice t x (some y1) none none) (hg:wants ops (St.mk sl ow nx).f o=some true) (hd:o.dst=some d) (hlt:K.can d=true)
  (hx:(St.mk sl ow nx).f.get x=some sx) (hr:sx.ff=some (fr,.sl (l.map enc))) (hu:K.P.underlying t=some (.slice e)) (hinf:K.P.info? e=some inf) (hy1:(St.mk sl ow nx).f.get y1=some (.val fl (.int kl lo)))
  (h3: ∀z,(enc z).length=inf.size) (hl1:lo=(m:Nat)) (hmn:m<=l.length)
  (q:J K ops dr rest ⟨(d,.val fr (.sl ((l.drop m).map enc)))::sl,ow,nx⟩ R):J K ops dr (o::rest) ⟨sl,ow,nx⟩ R:=by
 subst hl1;refine J.s (fh:=true) (kh:= .i64) ho hg hd hlt hx hr hu hinf (.inr ⟨y1,rfl,hy1⟩) (.inl ⟨rfl,rfl⟩) (by omega) (by simp;omega) (by simp) (λr hr=>by obtain⟨z,_,rfl⟩:=DF.1 hr;exact h3 z) ?_;have e:((l.map enc).take ((l.map enc).length:Int).toNat).drop ((m:Int).toNat)=(l.drop m).map enc:=(by rw[DW,DW,E8,<-List.map_drop]);rw[e];exact q
theorem J.rm {t t2:TypeId}{x y:Operand}{fa fb:Bool}{k:IntKind}{a b:Int}(ho:o.op= .binOp .rem t x y t2)(hg:wants ops (St.mk sl ow nx).f o=some true)(hd:o.dst=some d)(hlt:K.can d=true)
  (hx:(St.mk sl ow nx).f.get x=some (.val fa (.int k a))) (hy:(St.mk sl ow nx).f.get y=some (.val fb (.int k b))) (hb:b≠0)
  (q:J K ops dr rest ⟨(d,.val true (.int k (a.tmod b)))::sl,ow,nx⟩ R):J K ops dr (o::rest) ⟨sl,ow,nx⟩ R:=by
 refine J.e hg hd hlt ?_ q;simp only[ev,ho,hx,hy,vf,if_true,D2 hb,EG]
theorem J.qu {t t2:TypeId}{x y:Operand}{fa fb:Bool}{k:IntKind}{a b:Int}(ho:o.op= .binOp .quo t x y t2)(hg:wants ops (St.mk sl ow nx).f o=some true)(hd:o.dst=some d)(hlt:K.can d=true)
  (hx:(St.mk sl ow nx).f.get x=some (.val fa (.int k a))) (hy:(St.mk sl ow nx).f.get y=some (.val fb (.int k b))) (hb:b≠0)
  (q:J K ops dr rest ⟨(d,.val true (.int k (k.wrap (a.tdiv b))))::sl,ow,nx⟩ R):J K ops dr (o::rest) ⟨sl,ow,nx⟩ R:=by
 refine J.e hg hd hlt ?_ q;simp only[ev,ho,hx,hy,vf,if_true,D2 hb,EG]
end
theorem Rel.unbx {K:Ctx}{sl:List (Nat×SV)}{ow:List (Nat×Option Own)}{nx s o:Nat}{fr:Bool}{row:List PV}(hM: ∀b,¬K.M b)(hs:lk sl s=some (.optr o 0 0 0))(ho:(St.mk sl ow nx).f.own o=some (.box fr row))(a:Act)(w:World)(h:Rel K ⟨sl,ow,nx⟩ a w):
  Rel K ⟨(s,.fptr fr row)::sl,(o,none)::ow,nx⟩ a w:=by
 obtain⟨φ,hφ⟩:=h;have hown': ∀q c,(St.mk ((s,.fptr fr row)::sl) ((o,none)::ow) nx).f.own q=some c->q≠o/\(St.mk sl ow nx).f.own q=some c:=by
  intro q c hq;simp only[St.f,ai]at hq;by_cases e:o=q;·rw[D4 e]at hq;cases hq
  ·rw[D2 e]at hq;exact⟨Ne.symm e,hq⟩
 have hZ: ∀f b,Zf K (St.mk sl ow nx).f φ f b->Zf K (St.mk ((s,.fptr fr row)::sl) ((o,none)::ow) nx).f φ f b:=
  λf b hb=>⟨⟨hb.1.1,λq c hq=>hb.1.2 q c (hown' q c hq).2⟩,hb.2⟩
 refine⟨φ,hφ.df,hφ.sz,hφ.old,hφ.kept,?_,?_,?_,?_,?_,?_⟩
 ·intro q c hq;exact(hφ.own q c (hown' q c hq).2).mono (λ_ _=>rfl) λf b hb _=>⟨hZ f b hb,rfl⟩
 ·intro q c g hq;exact hφ.mine q c g (hown' q c hq).2
 ·intro q c hq;exact hφ.inU q c (hown' q c hq).2
 ·intro q q' c c' g hq hq';exact hφ.dis q q' c c' g (hown' q c hq).2 (hown' q' c' hq').2
 ·intro t sv hsv;rcases slot_put t sv hsv with ⟨rfl,rfl⟩|⟨_,h⟩
  ·obtain⟨v,hv,hr⟩:=hφ.slot t _ hs;refine⟨v,hv,?_⟩;obtain⟨g,hg,e⟩:=hr;obtain⟨g',ty,cur,hv0,hh,hl,h1⟩:=hφ.own o _ ho;have hgg:g'=g:=(by rw[hv0]at hg;simpa[ax]using hg);subst hgg;have hge:K.w0.heap.size<=g':=(hφ.mine o _ g' ho (.inl hg)).resolve_right (hM g');have hlt:g'<w.heap.size:=(DR.1 hh).1;refine⟨g',0,cur.toList,by rw[e],⟨⟨.inl hge,λq c hq hvq=> ?_⟩,λ_=>K.hF _ hge⟩,hlt,Rep.monoL (λb hb _=>⟨hZ fr b hb,rfl⟩) hl,h1,λj v hj=> ?_⟩
   ·obtain⟨hne,hq'⟩:=hown' q c hq;exact hne (hφ.dis q o c _ g' hq' ho hvq (.inl hg))
   ·refine bY hh ?_;rw[Ew,cell_of_row _ g' j cur ty (0,0) hh];simpa using hj
  ·obtain⟨v,hv,hr⟩:=hφ.slot t sv h;exact⟨v,hv,hr.mono (hφ.sin t sv h) (λf b hb _=>⟨hZ f b hb,rfl⟩) (λ_ _=>rfl)⟩
 ·intro t sv hsv;rcases slot_put t sv hsv with ⟨rfl,rfl⟩|⟨_,h⟩;·trivial
  ·exact hφ.sin t sv h
inductive Sh:PV->PV->Prop
 |bool (b):Sh (.bool b) (.bool b)
 |int (k n m):Sh (.int k n) (.int k m)
 |str (s):Sh (.str s) (.str s)
 |agg (cs ds):L2 Sh cs ds->Sh (.agg cs) (.agg ds)
 |sl (rs ts):L2 (L2 Sh) rs ts->Sh (.sl rs) (.sl ts)
 |fn (f as bs cs ds):L2 Sh as cs->L2 Sh bs ds->Sh (.fn f as bs) (.fn f cs ds)
 |nilp:Sh .nilp .nilp
 |nilf:Sh .nilf .nilf
 |ptr (cs ds):L2 Sh cs ds->Sh (.ptr cs) (.ptr ds)
 |raw (u v):Sh (.raw u) (.raw v)
theorem Sh.one {p q:PV}(h:Sh p q):q.one=p.one:=by cases h<;>rfl
theorem L2.unflat {α β:Type}{R:α->β->Prop}: ∀(rows:List (List α)) (ps:List β),L2 R rows.flatten ps->∃rows',L2 (L2 R) rows rows'/\rows'.flatten=ps
 | [],ps,h=>by cases h;exact⟨[],.nil,rfl⟩
 |r::rows,ps,h=>by
  have hl: ∀(r:List α) (xs:List α) (ps:List β),L2 R (r++xs) ps->∃a b,ps=a++b/\L2 R r a/\L2 R xs b:=by
   intro r
   induction r with
   |nil=>intro xs ps h;exact⟨[],ps,rfl,.nil,h⟩
   |cons x r ih=>
    intro xs ps h;cases h with
    |cons h1 h2=>
     obtain⟨a,b,rfl,h3,h4⟩:=ih _ _ h2;exact⟨_::a,b,rfl,.cons h1 h3,h4⟩
  obtain⟨a,b,rfl,h1,h2⟩:=hl r _ ps h;obtain⟨rows',h3,rfl⟩:=L2.unflat rows b h2;exact⟨a::rows',.cons h1 h3,rfl⟩
theorem L2.lens {α β:Type}{R:α->β->Prop}{n:Nat}{rows:List (List α)}{rows':List (List β)}(h:L2 (L2 R) rows rows')(hl: ∀r∈rows,r.length=n): ∀r∈rows',r.length=n:=by
 induction h with
 |nil=>simp
 |cons h1 _ ih=>
  intro r hr;rcases DO.1 hr with rfl|hr;·rw[<-h1.length];exact hl _ (.head _)
  ·exact ih (λr hr=>hl r (.tail _ hr)) r hr
theorem L2.ones {rows rows':List (List PV)}(h:L2 (L2 Sh) rows rows')(hl: ∀r∈rows,∀p∈r,p.one=true): ∀r∈rows',∀p∈r,p.one=true:=by
 induction h with
 |nil=>simp
 | @cons a b _ _ h1 _ ih=>
  intro r hr;rcases DO.1 hr with rfl|hr
  ·have h2:=hl a (.head _);clear ih hl hr
   induction h1 with
   |nil=>simp
   |cons h3 _ ih2=>
    intro p hp;rcases DO.1 hp with rfl|hp;·rw[h3.one];exact h2 _ (.head _)
    ·exact ih2 (λp hp=>h2 p (.tail _ hp)) p hp
  ·exact ih (λr hr=>hl r (.tail _ hr)) r hr
section
variable {w:World}{Z:Nat->Prop}{b0 o0:Nat}{k0:IntKind}{n0 m0:Int}
theorem yy (hc:w.cell? ⟨b0,o0,none⟩=some (.int k0 n0)){a:Addr}{v:Value}(h:mJ w a v): ∃v',mJ (w.setCell ⟨b0,o0,none⟩ (.int k0 m0)) a v'/\(v'=v∨(v= .int k0 n0/\v'= .int k0 m0)):=by
 have hfz:(w.setCell ⟨b0,o0,none⟩ (.int k0 m0)).frozen? a=false:=by
  rw[<-h.2];exact World.frozen?_setCell _ _ _ _
 by_cases e:(⟨b0,o0,none⟩:Addr)=a
 ·subst e;have e2:v= .int k0 n0:=by
   have h1:=h.1;rw[hc]at h1;exact(D3 h1).symm
  exact⟨_,⟨World.cell?_setCell_same _ _ _ hc,hfz⟩,.inr ⟨e2,rfl⟩⟩
 ·exact⟨v,⟨by rw[World.cell?_setCell_other _ _ _ _ e];exact h.1,hfz⟩,.inl Y⟩
theorem me (hc:w.cell? ⟨b0,o0,none⟩=some (.int k0 n0)){w':World}{Z':Nat->Prop}{b:Nat}: ∀(xs:List Value) (ps:List PV) (off:Nat),(∀j v,xs[j]? =some v->mJ w ⟨b,off+j,none⟩ v)->
  L2 (Rep w Z) xs ps->L2 (λv p=> ∃p',Sh p p'/\Rep w' Z' v p') xs ps->∃xs' ps',(∀j v,xs'[j]? =some v->mJ (w.setCell ⟨b0,o0,none⟩ (.int k0 m0)) ⟨b,off+j,none⟩ v)/\L2 (Rep w' Z') xs' ps'/\L2 Sh ps ps'
 | [],_,off,_,.nil,.nil=>⟨[],[],by simp,.nil,.nil⟩
 |x::xs,p::ps,off,h,.cons h0 h0r,.cons h1 h2=>by
  obtain⟨xs',ps',h3,h4,h5⟩:=me hc xs ps (off+1) (λj v hj=>by have:=h (j+1) v (by simpa using hj);rwa[show off+(j+1)=off+1+j by omega]at this) h0r h2;obtain⟨v',h6,h7⟩:=yy (m0:=m0) hc (h 0 x Y);obtain⟨p',h8,h9⟩:=h1;have: ∃p'',Sh p p''/\Rep w' Z' v' p'':=by
   rcases h7 with rfl|⟨rfl,rfl⟩;·exact⟨p',h8,h9⟩
   ·cases h0 with
    |int _ _=>exact⟨.int k0 m0,.int _ _ _,.int _ _⟩
    |raw _ hu=>exact⟨.raw (.int k0 m0),.raw _ _,.raw _ Y⟩
  obtain⟨p'',h10,h11⟩:=this;refine⟨v'::xs',p''::ps',λj v hj=> ?_,.cons h11 h4,.cons h10 h5⟩;cases j with
  |zero=>simp at hj;subst hj;exact h6
  |succ j=>have:=h3 j v (by simpa using hj);rwa[show off+(j+1)=off+1+j by omega]
theorem Rep.poke {Z':Nat->Prop}(hz: ∀b,Z b->b<w.heap.size->Z' b)(hc:w.cell? ⟨b0,o0,none⟩=some (.int k0 n0)){v:Value}{p:PV}(hr:Rep w Z v p): ∃p',Sh p p'/\Rep (w.setCell ⟨b0,o0,none⟩ (.int k0 m0)) Z' v p':=by
 have key: ∀(vs:List Value) (ps:List PV),L2 (λv p=> ∃p',Sh p p'/\Rep (w.setCell ⟨b0,o0,none⟩ (.int k0 m0)) Z' v p') vs ps->∃ps',L2 Sh ps ps'/\L2 (Rep (w.setCell ⟨b0,o0,none⟩ (.int k0 m0)) Z') vs ps':=by
  intro vs ps h
  induction h with
  |nil=>exact⟨[],.nil,.nil⟩
  |cons h1 _ ih=>
   obtain⟨p',h2,h3⟩:=h1;obtain⟨ps',h4,h5⟩:=ih;exact⟨p'::ps',.cons h2 h4,.cons h3 h5⟩
 refine Rep.rec (motive_1:=λv p _=> ∃p',Sh p p'/\Rep (w.setCell ⟨b0,o0,none⟩ (.int k0 m0)) Z' v p') (motive_2:=λvs ps _=>L2 (λv p=> ∃p',Sh p p'/\Rep (w.setCell ⟨b0,o0,none⟩ (.int k0 m0)) Z' v p') vs ps) ?_ ?_ ?_ ?_ ?_ ?_ ?_ ?_ ?_ ?_ ?_ ?_ ?_ ?_ hr;·exact λb=>⟨_,.bool b,.bool b⟩
 ·exact λk n=>⟨_,.int k n n,.int k n⟩
 ·exact λs=>⟨_,.str s,.str s⟩
 ·intro vs cs _ h1 ih;obtain⟨ps',h2,h3⟩:=key vs cs ih;refine⟨_,.agg cs ps' h2,.agg vs ps' h3 ?_⟩;have:=L2.ones (.cons h2 .nil) (by simpa using h1);simpa using this
 ·exact⟨_,.sl [] [] .nil,.nilsl⟩
 ·exact λa cap hc=>⟨_,.sl [] [] .nil,.slE a cap hc⟩
 ·intro b off cap sz rows xs hzb hb h1 h2 h3 h4 h5 h6 ih;obtain⟨xs',ps',h7,h8,h9⟩:=me (m0:=m0) hc xs rows.flatten off h3 h6 ih;obtain⟨rows',h10,h11⟩:=L2.unflat rows ps' h9;have hlen:=h10.length;refine⟨_,.sl rows rows' h10,?_⟩;rw[hlen];exact .sl b off cap sz rows' xs' (hz b hzb hb) (by simpa using hb) (h10.lens h1) (h10.ones h2) h7 (by omega) h5 (by rw[h11];exact h8)
 ·intro f vs us first caps _ _ ih1 ih2
  obtain⟨ps,h1,h2⟩:=key vs first ih1
  obtain⟨qs,h3,h4⟩:=key us caps ih2;exact⟨_,.fn f first caps ps qs h1 h3,.fn f vs us ps qs h2 h4⟩
 ·exact⟨_,.nilp,.nilp⟩
 ·exact⟨_,.nilf,.nilf⟩
 ·intro b o cells xs hzb hb h1 h2 h3 ih;obtain⟨xs',ps',h4,h5,h6⟩:=me (m0:=m0) hc xs cells o h2 h3 ih;refine⟨_,.ptr cells ps' h6,.ptr b o ps' xs' (hz b hzb hb) (by simpa using hb) ?_ h4 h5⟩;have:=L2.ones (.cons h6 .nil) (by simpa using h1);simpa using this
 ·exact λu hu=>⟨_,.raw u u,.raw u hu⟩
 ·exact .nil
 ·exact λ_ _ ih1 ih2=> .cons ih1 ih2
end
def zb (sl:List (Nat×SV)):List Nat->List (Nat×SV)
 | []=>[]
 |s::ss=>match lk sl s with
  |some (.fix v p)=>(s,.fix v p)::zb sl ss
  |_=>zb sl ss
def uQ (sl:List (Nat×SV)):List Nat->List (Nat×SV)
 | []=>[]
 |s::ss=>match lk sl s with
  |some (.val _ p)=>match p.flat with
   |true=>(s,.val true p)::uQ sl ss
   |false=>uQ sl ss
  |_=>uQ sl ss
theorem lk_fxSl {sl l2:List (Nat×SV)}{s:Nat}{sv:SV}: ∀{ss:List Nat},lk (zb sl ss++l2) s=some sv->(∃v p,s∈ss/\lk sl s=some (.fix v p)/\sv= .fix v p)∨lk l2 s=some sv
 | [],h=> .inr h
 |q::ss,h=>by
  simp only[zb]at h;split at h
  ·rename_i v p hq;rw[Ei,ai]at h;by_cases e:q=s
   ·subst e;rw[D4 Y]at h;exact .inl ⟨v,p,.head _,hq,(D3 h).symm⟩
   ·rw[D2 e]at h;rcases lk_fxSl h with ⟨v,p,hm,h⟩|h;·exact .inl ⟨v,p,.tail _ hm,h⟩
    ·exact .inr h
  ·rcases lk_fxSl h with ⟨v,p,hm,h⟩|h;·exact .inl ⟨v,p,.tail _ hm,h⟩
   ·exact .inr h
theorem ly {sl:List (Nat×SV)}{s:Nat}{sv:SV}: ∀{ss:List Nat},lk (uQ sl ss) s=some sv->∃fr p,lk sl s=some (.val fr p)/\p.flat=true/\sv= .val true p
 | [],h=>by simp[uQ,lk]at h
 |q::ss,h=>by
  simp only[uQ]at h;split at h
  ·rename_i fr p hq;split at h
   ·rename_i hf;rw[ai]at h;by_cases e:q=s
    ·subst e;rw[D4 Y]at h;exact⟨fr,p,hq,hf,(D3 h).symm⟩
    ·rw[D2 e]at h;exact ly h
   ·exact ly h
  ·exact ly h
theorem J.tr {K:Ctx}{ops:Array Oper}{o:Oper}{rest:List Oper}{sl:List (Nat×SV)}{nx:Nat}{R:St->Prop}{t:TypeId}{x s:Nat}{y:Operand}{k:IntKind}{n m:Int}{cs:List PV}{fy fr:Bool}{inf:TypeInfo}{D:PV}(fx keep:List Nat)(hM: ∀b,¬K.M b)(hFs: ∀b,K.F b->K.w0.heap.size<=b)
  (ho:o.op= .store t (.tmp x) y) (hg:wants ops (St.mk sl [] nx).f o=some true) (hd:o.dst=none) (hx:lk sl x=some (.fptr true (.int k n::cs))) (hy:(St.mk sl [] nx).f.get y=some (.val fy (.int k m))) (hi:K.P.info? t=some inf) (hs1:inf.size=1)
  (hs:lk sl s=some (.val fr D)) (hfx: ∀q u p,q∈fx->lk sl q=some (.fix u p)->Rep K.w0 K.Z0 u p)
  (q: ∀D',Sh D D'->J K ops false rest ⟨(s,.val fr D')::(zb sl fx++uQ sl keep),[],0⟩ R):J K ops false (o::rest) ⟨sl,[],nx⟩ R:=by
 refine⟨TO.mk λa w Q hr hQ=> ?_⟩;obtain⟨φ,hφ⟩:=hr;unfold wpList;rw[D4 (aE hφ hg)];refine .inl ?_;obtain⟨v,hv,b,o0,xs,rfl,hz,hb,hl,h1,hsoft⟩:=hφ.slot x _ hx;obtain⟨xs',rfl⟩: ∃xs',xs= .int k n::xs':=by
  cases hl with
  |cons h1 _=>cases h1;exact⟨_,rfl⟩
 have hcell:=hsoft 0 _ Y;rw[F1]at hcell;have hxe:a.eval (.tmp x)= .pointer (some ⟨b,o0,none⟩):=(by simp[Act.eval,hv]);have hye:a.eval y= .int k m:=by
  have:=(ae hφ hy).1;generalize a.eval y=u at this⊢;cases this;rfl
 have hno: ∀i c,(St.mk sl [] nx).f.own i≠some c:=(by intro i c hi;simp[St.f,lk]at hi);have hge:K.w0.heap.size<=b:=hFs b (hz.2 Y);have hrun:(execOp a.eval o).run K.P w= .ok .skip (w.setCell ⟨b,o0,none⟩ (.int k m)):=by
  have hst:(store (⟨b,o0,none⟩:Addr) (.int k m)).run K.P w= .ok () (w.setCell ⟨b,o0,none⟩ (.int k m)):=by
   rw[run_store _ _ _ _ _ Y,hcell.1];simp[hcell.2]
  simp only[execOp,ho,hxe,hye,Instr.storeAt,Instr.sureAddr,DK,Dr,DA,storeVar,aM hi,hs1];rw[D2 (by simp[Value.cells])];simp only[Value.cells,storeCells,DK,bD,F1,hst,DA,Dr]
 unfold Oper.wp;rw[hrun];have hdst:a.put o.dst undef=a:=(by rw[hd];rfl);have hother: ∀b',b'≠b->(w.setCell ⟨b,o0,none⟩ (.int k m)).heap[b']? =w.heap[b']? :=λb' hne=>heap_setCell_other w _ b' _ hne;obtain⟨vs,hvs,hrs⟩:=hφ.slot s _ hs;obtain⟨D',hsh,hrep⟩:=Rep.poke (Z':=Zf K (St.mk sl [] nx).f φ fr) (m0:=m) (λb hb _=>hb) hcell.1 hrs;refine(q D' hsh).out.out _ _ Q ?_ hQ;rw[hdst];have hZ: ∀f b',Zf K (St.mk sl [] nx).f φ f b'->Zf K (St.mk ((s,.val fr D')::(zb sl fx++uQ sl keep)) [] 0).f φ f b':=λf b' hb'=>⟨⟨hb'.1.1,λi c hi=>by simp[St.f,lk]at hi⟩,hb'.2⟩;refine⟨φ,hφ.df,hφ.sz,hφ.old,⟨hφ.kept.os,hφ.kept.tape,hφ.kept.output,by simpa using hφ.kept.size,λb' hb' hm=>(hother b' (by omega)).trans (hφ.kept.block b' hb' hm)⟩,?_,?_,?_,?_,?_,?_⟩;·intro i c hi;simp[St.f,lk]at hi
 ·intro i c g hi;simp[St.f,lk]at hi
 ·intro i c hi;simp[St.f,lk]at hi
 ·intro i i' c c' g hi;simp[St.f,lk]at hi
 ·intro i sv hi;rcases slot_put i sv hi with ⟨rfl,rfl⟩|⟨_,h2⟩;·exact⟨vs,hvs,Rep.mono (λb' hb' _=>⟨hZ _ b' hb',rfl⟩) hrep⟩
  ·rcases lk_fxSl h2 with ⟨u,p,hm,h3,rfl⟩|h3
   ·obtain⟨v,hv,e,_⟩:=hφ.slot i _ h3;refine⟨v,hv,e,?_⟩;rw[e];refine Rep.mono (λb' hb' hlt=>⟨⟨⟨.inr hb',λi c hi=>by simp[St.f,lk]at hi⟩,λe=>by cases e⟩,?_⟩) (hfx i u p hm h3);exact(hother b' (by omega)).trans (hφ.kept.block b' hlt (hM b'))
   ·obtain⟨fr',p,h4,hf,rfl⟩:=ly h3;obtain⟨v,hv,hr⟩:=hφ.slot i _ h4;refine⟨v,hv,?_⟩;have hr:Rep w _ v p:=hr;show Rep _ _ v p;cases hr<;>first|exact .bool _|exact .int _ _|exact .str _|exact .nilp|exact .nilf|(refine .raw _ ?_;assumption)|(simp[PV.flat]at hf)
 ·intro i sv hi;rcases slot_put i sv hi with ⟨rfl,rfl⟩|⟨_,h2⟩;·trivial
  ·rcases lk_fxSl h2 with ⟨u,p,hm,h3,rfl⟩|h3;·trivial
   ·obtain⟨fr',p,h4,hf,rfl⟩:=ly h3;trivial
theorem Rel.wk {K:Ctx}{sl:List (Nat×SV)}{ow:List (Nat×Option Own)}{nx:Nat}{o:Nat}{e:TypeId}{sz:Nat}{rows:List (List PV)}(ho:(St.mk sl ow nx).f.own o=some (.sl e sz true rows))(a:Act)(w:World)(h:Rel K ⟨sl,ow,nx⟩ a w):
  Rel K ⟨sl,(o,some (.sl e sz false rows))::ow,nx⟩ a w:=by
 obtain⟨φ,hφ⟩:=h;have hown': ∀q c,(St.mk sl ((o,some (.sl e sz false rows))::ow) nx).f.own q=some c->(q=o/\c= .sl e sz false rows)∨(q≠o/\(St.mk sl ow nx).f.own q=some c):=by
  intro q c hq;simp only[St.f,ai]at hq;by_cases e:o=q;·rw[D4 e]at hq;exact .inl ⟨e.symm,(D3 hq).symm⟩
  ·rw[D2 e]at hq;exact .inr ⟨Ne.symm e,hq⟩
 have hdom: ∀q c,(St.mk sl ((o,some (.sl e sz false rows))::ow) nx).f.own q=some c->∃c',(St.mk sl ow nx).f.own q=some c':=by
  intro q c hq;rcases hown' q c hq with ⟨rfl,_⟩|⟨_,h⟩;·exact⟨_,ho⟩
  ·exact⟨_,h⟩
 have hZ: ∀f b,Zf K (St.mk sl ow nx).f φ f b->Zf K (St.mk sl ((o,some (.sl e sz false rows))::ow) nx).f φ f b:=
  λf b hb=>⟨⟨hb.1.1,λq c hq=>by obtain⟨c',hq'⟩:=hdom q c hq;exact hb.1.2 q c' hq'⟩,hb.2⟩
 refine⟨φ,hφ.df,hφ.sz,hφ.old,hφ.kept,?_,?_,?_,?_,?_,?_⟩
 ·intro q c hq;rcases hown' q c hq with ⟨rfl,rfl⟩|⟨_,h⟩
  ·obtain⟨xs,hwn,hl,h1,h2⟩:=hφ.own q _ ho;exact⟨xs,hwn,hl.imp λ_ _ hp=>Rep.mono (λb hb _=>⟨hZ false b ⟨hb.1,λe=>by cases e⟩,rfl⟩) hp,h1,h2⟩
  ·exact(hφ.own q c h).mono (λ_ _=>rfl) λf b hb _=>⟨hZ f b hb,rfl⟩
 ·intro q c g hq;obtain⟨c',hq'⟩:=hdom q c hq;exact hφ.mine q c' g hq'
 ·intro q c hq;obtain⟨c',hq'⟩:=hdom q c hq;exact hφ.inU q c' hq'
 ·intro q q' c c' g hq hq';obtain⟨c1,hq1⟩:=hdom q c hq;obtain⟨c2,hq2⟩:=hdom q' c' hq';exact hφ.dis q q' c1 c2 g hq1 hq2
 ·intro t sv hsv;obtain⟨v,hv,hr⟩:=hφ.slot t sv hsv;exact⟨v,hv,hr.mono (hφ.sin t sv hsv) (λf b hb _=>⟨hZ f b hb,rfl⟩) (λ_ _=>rfl)⟩
 ·exact hφ.sin
structure SpecM (P:Program)(f:FuncId)(e:TypeId)(sz:Nat)(rows:List (List PV))(args:List PV)(rows':List (List PV))(res:List PV):Prop where
 isFn: ∃fn,P.funcs[f]? =some fn/\fn.body.isSome=true/\(fn.name== "runtime.NumGoroutine")=false
 flat: ∀p∈res,p.flat=true
 out: ∀(w:World) (Z1:Nat->Prop) (v0:Value) (vs:List Value),ar w (λ_=>Z1) v0 (.sl e sz true rows)->(∀b,Z1 b->¬VB v0 b)->L2 (Rep w (λb=> ¬VB v0 b)) vs args->
  Calls P f (v0::vs).toArray w λx w'=> ∃rs:List Value,x= .returned (l8 rs)/\w'.os=w.os/\w'.tape=w.tape/\w'.output=w.output/\w.heap.size<=w'.heap.size/\(∀b,b<w.heap.size->¬VB v0 b->w'.heap[b]? =w.heap[b]?)/\
   ar w' (λ_ b=>(Z1 b∨w.heap.size<=b)/\¬VB v0 b) v0 (.sl e sz true rows')/\L2 (Rep w' (λ_=>False)) rs res
def iR (e:TypeId)(sz:Nat)(rows:List (List PV))(args:List PV):St:=⟨(0,.ref 0)::iv 1 args,[(0,some (.sl e sz true rows))],1⟩
def Dl (P:Program)(fn:Func)(e:TypeId)(sz:Nat)(rows':List (List PV))(res:List PV)(x:Exit)(E:St):Prop:=
 match x with
 | .normal| .ret=>Ret P E.f true fn.results.toList (res.map .val) []/\∃q,E.f.slot 0=some (.ref q)/\E.f.own q=some (.sl e sz true rows')
 |_=>False
def Ctx.ofM (P:Program)(w0:World)(v0:Value)(Z1:Nat->Prop)(n:Nat):Ctx:=⟨P,w0,λb=> ¬VB v0 b,λb=>VB v0 b,n,λb=>w0.heap.size<=b∨Z1 b,λ_ h=> .inl h,1,[v0],[]⟩
theorem ox {K:Ctx}{E:EnvF}{U:Nat->Prop}{φ:Nat->Value}{a:Act}{w:World}(h:RelW K E U φ a w): ∀{rs:List ResultVar} {res:List PV},Ret K.P E true rs (res.map .val) []->(∀p∈res,p.flat=true)->
  ∃ws:List Value,(rs.mapM (bZ a.tmps)).run K.P w= .ok ws w/\L2 (Rep w (λ_=>False)) ws res
 | [],[],_,_=>⟨[],rfl,.nil⟩
 |_::rs,p::res,hr,hf=>by
  have hstep: ∀{t:ResultVar},(∃v,(bZ a.tmps t).run K.P w= .ok v w/\∃Z,Rep w Z v p)->Ret K.P E true rs (res.map .val) []->∃ws:List Value,((t::rs).mapM (bZ a.tmps)).run K.P w= .ok ws w/\L2 (Rep w (λ_=>False)) ws (p::res):=by
   rintro t ⟨v,hv,Z,hrep⟩ hrest;obtain⟨ws,h1,h2⟩:=ox h hrest λp hp=>hf p (.tail _ hp);refine⟨v::ws,?_,.cons (hrep.flat (hf p (.head _))) h2⟩;simp only[Fg,DK,hv,DA,h1,Dr]
  cases hr with
  | @val t sv fr _ _ _ _ hs hff _ hrest=>
   refine hstep ?_ hrest;have hx:E.get (.tmp t)=some sv:=hs;have hrep:=bC h hx hff;exact⟨_,by simp only[bZ,Dr];rfl,_,hrep⟩
  | @cell t ty q fr row _ _ _ _ hs hq hp _ hrest=>
   refine hstep ?_ hrest;obtain⟨v,hv,g,hg,e⟩:=h.slot t _ hs;have hat:(Own.box fr row).at_ 0 0 0=some (fr,row):=rfl;have hc:=ju (h.own q _ hq) hat hg;obtain⟨u,hu,hrep⟩:=fS hc hp;refine⟨u,?_,_,hrep⟩;have e2:a.tmps.getD t undef= .pointer (some ⟨g,0,none⟩):=by
    rw[hv,e]
   simp only[bZ,e2,asAddr,DK,Dr,DA];simpa[Instr.loadAt,Instr.sureAddr]using hu
 | [],_::_,hr,_=>by cases hr
 |_::_,[],hr,_=>by cases hr
theorem SpecM.body {P:Program} {f:FuncId} {fn:Func} {c:Code} {e:TypeId} {sz:Nat} {rows rows':List (List PV)} {args res:List PV} (hf:P.funcs[f]? =some fn) (hb:fn.body=some c) (hn:(fn.name== "runtime.NumGoroutine")=false) (hl:Nat.ble (args.length+1) fn.ntmps=true)
  (hflat: ∀p∈res,p.flat=true) (h: ∀w0 v0 Z1,T (Ctx.ofM P w0 v0 Z1 fn.ntmps) c (iR e sz rows args) (Dl P fn e sz rows' res)):SpecM P f e sz rows args rows' res:=by
 refine⟨⟨fn,hf,by rw[hb];rfl,hn⟩,hflat,λw Z1 v0 vs hown hz1 hvs=> ?_⟩;have hle:=Dy hl;have hvl:=hvs.length;refine calls_of_wp hf hb ?_;have hsl0: ∀s sv,lk ((0,SV.ref 0)::iv 1 args) s=some sv->(s=0/\sv= .ref 0)∨∃j p,s=1+j/\args[j]? =some p/\sv= .val false p:=by
  intro s sv hs;rw[ai]at hs;by_cases e0:0=s;·rw[D4 e0]at hs;exact .inl ⟨e0.symm,(D3 hs).symm⟩
  ·rw[D2 e0]at hs;exact .inr (lx args 1 s sv hs)
 have hown0: ∀o c,(iR e sz rows args).f.own o=some c->o=0/\c= .sl e sz true rows:=by
  intro o c ho;simp only[iR,St.f,ai]at ho;by_cases e0:0=o;·rw[D4 e0]at ho;exact⟨e0.symm,(D3 ho).symm⟩
  ·rw[D2 e0]at ho;simp[lk]at ho
 have hrel:Rel (Ctx.ofM P w v0 Z1 fn.ntmps) (iR e sz rows args) { tmps:=(v0::vs).toArray++Array.replicate (fn.ntmps-(v0::vs).toArray.size) undef,defers:=[] } w:=by
  have ht: ∀(j:Nat) v,(v0::vs)[j]? =some v->((v0::vs).toArray++Array.replicate (fn.ntmps-(v0::vs).toArray.size) undef)[j]? =some v:=by
   intro j v hv;have hj:j<(v0::vs).length:=(D5.1 hv).1;rw[FJ (by simpa using hj)];simpa using hv
  have htd: ∀(j:Nat) v,(v0::vs)[j]? =some v->((v0::vs).toArray++Array.replicate (fn.ntmps-(v0::vs).toArray.size) undef).getD j undef=v:=λj v h=>(by rw[E5,ht j v h];rfl);have hZ: ∀b,¬VB v0 b->Zf (Ctx.ofM P w v0 Z1 fn.ntmps) (iR e sz rows args).f (λ_=>v0) false b:=λb hb=>⟨⟨.inr hb,λo c ho=>hb⟩,λe=>by cases e⟩;have hZ1: ∀b,Z1 b->Zf (Ctx.ofM P w v0 Z1 fn.ntmps) (iR e sz rows args).f (λ_=>v0) true b:=λb hb=>⟨⟨.inr (hz1 b hb),λo c ho=>hz1 b hb⟩,λ_=> .inr hb⟩;refine⟨λ_=>v0,rfl,?_,?_,⟨rfl,rfl,rfl,DL _,λ_ _ _=>rfl⟩,?_,?_,?_,?_,?_,?_⟩;·simp[Ctx.ofM];omega
  ·intro s v hs hv;have hs:s<1:=hs;obtain rfl:s=0:=(by omega);have hv: [v0][0]? =some v:=hv;exact ht 0 v (by simpa using hv)
  ·intro o c ho;obtain⟨rfl,rfl⟩:=hown0 o c ho;exact ar.mono (Z:=λ_=>Z1) (c:= .sl e sz true rows) hown (λ_ _=>rfl) λf b hb _=>⟨by
    obtain⟨h1,h2⟩:=hZ1 b hb;exact⟨h1,λ_=>h2 Y⟩,rfl⟩
  ·intro o c g ho hg;exact .inr hg
  ·intro o c ho;obtain⟨rfl,_⟩:=hown0 o c ho;exact GN
  ·intro o o' c c' g ho ho' _ _;rw[(hown0 o c ho).1,(hown0 o' c' ho').1]
  ·intro s sv hs;rcases hsl0 s sv hs with ⟨rfl,rfl⟩|⟨j,p,rfl,hp,rfl⟩;·exact⟨v0,htd 0 v0 Y,rfl⟩
   ·obtain⟨v,hv,hr⟩:=hvs.get hp;exact⟨v,htd (1+j) v (by rw[FC];simpa using hv),Rep.mono (λb hb _=>⟨hZ b hb,rfl⟩) hr⟩
  ·intro s sv hs;rcases hsl0 s sv hs with ⟨rfl,rfl⟩|⟨j,p,rfl,hp,rfl⟩;·exact GN
   ·trivial
 refine wp_mono ((h w v0 Z1).out _ w hrel) λx a w' ⟨hfe,E,hq,φ,hφ⟩=> ?_;have key:(Ret P E.f true fn.results.toList (res.map .val) []/\∃q,E.f.slot 0=some (.ref q)/\E.f.own q=some (.sl e sz true rows'))->a.defers=[]/\∃v,(results fn a.tmps).run P w'= .ok v w'/\∃rs:List Value,Ending.returned v= .returned (l8 rs)/\
   w'.os=w.os/\w'.tape=w.tape/\w'.output=w.output/\w.heap.size<=w'.heap.size/\(∀b,b<w.heap.size->¬VB v0 b->w'.heap[b]? =w.heap[b]?)/\
   ar w' (λ_ b=>(Z1 b∨w.heap.size<=b)/\¬VB v0 b) v0 (.sl e sz true rows')/\L2 (Rep w' (λ_=>False)) rs res:=by
  rintro⟨hret,q,hq1,hq2⟩;obtain⟨ws,h1,h2⟩:=ox hφ hret hflat;have hk:=hφ.kept;have hold:=hφ.old 0 v0 GN Y;obtain⟨v,hv,hvr⟩:=hφ.slot 0 _ hq1;have hv0:φ q=v0:=by
   have hvr:v=φ q:=hvr;rw[E5,hold]at hv;rw[<-hvr];exact hv.symm
  refine⟨hφ.df,l8 ws,?_,ws,rfl,hk.os,hk.tape,hk.output,hk.size,λb hb hne=>hk.block b hb hne,?_,h2⟩
  ·have e:results fn a.tmps=(do let vs<-fn.results.mapM (bZ a.tmps);pure (if h:vs.size=1 then vs[0]else .tuple vs)):=by
    unfold results;congr
   have h1':(fn.results.toList.mapM (bZ a.tmps)).run P w'= .ok ws w':=h1;rw[e,FO];simp only[DK,Gw,h1',DA];cases ws with
   |nil=>rfl
   |cons v ws=>cases ws with
    |nil=>rfl
    |cons v' ws=>rfl
  ·have ho:=hφ.own q _ hq2;rw[hv0]at ho;obtain⟨xs,hwn,hl2,h5,h6⟩:=ho;refine⟨xs,hwn,Rep.monoL (λb hb _=>⟨⟨?_,?_⟩,rfl⟩) hl2,h5,h6⟩;·exact(hb.2 Y).elim .inr .inl
   ·have:=hb.1.2 q _ hq2;rwa[hv0]at this
 cases x with
 |normal=>exact key hq
 |ret=>exact key hq
 |exit id=>exact hq.elim
 |goto l=>exact hq.elim
 |panic ch=>simp[fine]at hfe
 |outgrown=>simp[fine]at hfe
section
variable {K:Ctx}{V:EnvF}{U:Nat->Prop}{φ:Nat->Value}{a:Act}{w:World}
theorem Bc (h:RelW K V U φ a w){q:Nat}{c0:Own}(hq0:V.own q=some c0){x:Operand}{sv:SV}{p:PV}(hx:V.get x=some sv)(hp:V.pv sv=some p)(hn:nr q (some sv)=true):Rep w (λb=> ¬VB (φ q) b) (a.eval x) p:=by
 obtain⟨hr,_⟩:=ae h hx;have hZ: ∀f b,Zf K V φ f b->¬VB (φ q) b:=λf b hb=>hb.1.2 q c0 hq0;cases sv with
 |val f p'=>simp only[EnvF.pv,D6]at hp;subst hp;exact Rep.mono (λb hb _=>⟨hZ f b hb,rfl⟩) hr
 |fix u p'=>simp only[EnvF.pv,D6]at hp;subst hp;exact Rep.mono (λb hb _=>⟨hZ false b hb,rfl⟩) hr.2
 |nilsl=>simp only[EnvF.pv,D6]at hp;subst hp;simp only[aU,ay]at hr;rw[hr];exact .nilsl
 |ref o=>
  have hne:o≠q:=(by simpa[nr]using hn);simp only[EnvF.pv]at hp;split at hp
  ·rename_i e sz fr rows ho;obtain rfl:=D3 hp;simp only[aU,ay]at hr;rw[hr];obtain⟨xs,hown,hl,h1,h2⟩:=h.own o _ ho;have hl':L2 (Rep w (λb=> ¬VB (φ q) b)) xs rows.flatten:=Rep.monoL (λb hb _=>⟨hZ fr b hb,rfl⟩) hl;have hlt:=hown.lt;have hcell:=λg hg=>hown.cells (g:=g) hg;rcases hown.2 with ⟨hv,hn⟩|⟨g,cap,cur,hv,_,hg,hnc,hcm,_⟩
   ·rw[hv];have:rows=[]:=DP hn;subst this;exact .nilsl
   ·have hbl:VB (φ o) g:=(by rw[hv];exact .inl Y);rw[hv]at hcell hlt⊢;refine .sl g 0 cap sz rows xs (λe=>hne (h.dis o q _ _ g ho hq0 hbl e)) (hlt g Y).2 h1 h2 (λj v hj=> ?_) hnc hcm hl';have:=hcell g Y j v hj;rw[bD]at this;exact bY hg this
  ·cases hp
 |_=>simp[EnvF.pv]at hp
theorem AW (h:RelW K V U φ a w){q:Nat}{c0:Own}(hq0:V.own q=some c0): ∀(xs:List Operand) (ps:List PV),bW V false xs=some ps->(xs.all λy=>nr q (V.get y))=true->L2 (Rep w (λb=> ¬VB (φ q) b)) (xs.map a.eval) ps
 | [],ps,hp,_=>by simp only[bW,D6]at hp;subst hp;exact .nil
 |x::rest,ps,hp,hn=>by
  simp only[Fb,DJ]at hn;simp only[bW]at hp;split at hp
  ·rename_i p l hx hl;obtain rfl:=D3 hp;refine .cons ?_ (AW h hq0 rest l hl hn.2);simp only[pH]at hx;split at hx
   ·rename_i sv hsv;rw[hsv]at hn;exact Bc h hq0 hsv hx hn.1
   ·cases hx
  ·cases hp
theorem fD: ∀(res:List PV) (vs:List Value),RV.vals (res.map RV.val) vs=[]
 | [],_=>by simp[RV.vals]
 |p::res,[]=>by simp[RV.vals]
 |p::res,v::vs=>by simpa[RV.vals]using fD res vs
theorem fE (fr:Bool): ∀(res:List PV),RV.owns fr (res.map RV.val)=[]
 | []=>rfl
 |p::res=>fE fr res
end
theorem J.cm {K:Ctx}{ops:Array Oper}{o:Oper}{rest:List Oper}{sl:List (Nat×SV)}{ow:List (Nat×Option Own)}{nx:Nat}{R:St->Prop}{d:Nat}{x x0:Operand}{xs:List Operand}{args:Array Operand}{tys:Array TypeId}{f:FuncId}{fx fr:Bool}{q sz:Nat}{e:TypeId}{rows rows' rows2:List (List PV)}{ps ps' res:List PV}
  (ho:o.op= .call { callee:= .value x,args:=args,argTypes:=tys }) (hg:wants ops (St.mk sl ow nx).f o=some true) (hd:o.dst=some d) (hlt:K.can d=true) (hx:(St.mk sl ow nx).f.get x=some (.val fx (.fn (.func f) [] []))) (ha:args.toList=x0::xs)
  (h0:(St.mk sl ow nx).f.get x0=some (.ref q)) (hq:(St.mk sl ow nx).f.own q=some (.sl e sz fr rows2)) (hne:(xs.all λy=>nr q ((St.mk sl ow nx).f.get y))=true) (hspec:SpecM K.P f e sz rows ps' rows' res) (hrw:rows2=rows) (hps:bW (St.mk sl ow nx).f false xs=some ps) (hpe:ps=ps')
  (k:J K ops false rest ⟨(d,RV.one true nx (res.map .val))::sl,(q,some (.sl e sz fr rows'))::ow,nx⟩ R):J K ops false (o::rest) ⟨sl,ow,nx⟩ R:=by
 subst hrw hpe;refine⟨TO.mk λa w Q hr hQ=> ?_⟩;obtain⟨φ,hφ⟩:=hr;unfold wpList;rw[D4 (aE hφ hg)];refine .inl ?_;obtain⟨hrf,_⟩:=ae hφ hx;generalize hvx:a.eval x=vx at hrf;cases hrf with
 |fn _ vs us _ _ hf hc=>
 cases hf;cases hc;obtain⟨fn,hfn,hbody,hname⟩:=hspec.isFn;obtain⟨hr0,_⟩:=ae hφ h0;have hr0:a.eval x0=φ q:=hr0;have hrun:(execOp a.eval o).run K.P w= .ok (.enter f (φ q::xs.map a.eval).toArray) w:=by
  have hb:fn.body.isNone=false:=(by cases hfb:fn.body<;>simp_all);simp only[execOp,ho,resolve,hvx,Deferred.ofValue,DK,Dr,DA,invoke,callFunc,run_program,hfn,hname,hb,EF,if_false];congr 2;apply Array.ext';simp[ha,hr0]
 unfold Oper.wp;rw[hrun];have hoq:=hφ.own q _ hq;refine(hspec.out w (Zf K (St.mk sl ow nx).f φ fr) (φ q) (xs.map a.eval) hoq (λb hb=>hb.1.2 q _ hq) (AW hφ hq xs ps hps hne)).mono ?_;rintro _ w' ⟨rs,rfl,hos,htape,hout,hsize,hblk,hown',hres⟩;let V':EnvF:=⟨(St.mk sl ow nx).f.slot,λi=>if i=q then some (.sl e sz fr rows')else(St.mk sl ow nx).f.own i⟩;have hrel:RelW K V' (· <nx) φ a w':=by
  refine hφ.step (λb=>VB (φ q) b) (λi=>i=q) Y (λ_ hu=>hu) (λ_ _=>rfl) hos htape hout hsize (λb hb hne=>hblk b hb hne) ?_ ?_ ?_ ?_
  ·intro b _ hb;exact⟨q,_,hq,hb,rfl⟩
  ·intro i c hi hne;simpa[V',hne]using hi
  ·intro i c hi hie;subst hie;simp only[V',D4,D6]at hi;subst hi;refine⟨hφ.inU i _ hq,?_,λg hg=> .inr ⟨i,_,hq,hg,rfl⟩⟩;obtain⟨xs',hwn,hl,h1,h2⟩:=hown';refine⟨xs',hwn,Rep.monoL (λb hb _=>⟨?_,rfl⟩) hl,h1,h2⟩;obtain⟨hb1,hb2⟩:=hb;refine⟨⟨?_,λj c hj hv=> ?_⟩,λhfr=> ?_⟩
   ·rcases hb1 with hb1|hb1;·exact hb1.1.1
    ·exact .inl (Du hφ.kept.size hb1)
   ·by_cases e:j=i;·subst e;exact hb2 hv
    ·simp only[V',D2 e]at hj;rcases hb1 with hb1|hb1;·exact hb1.1.2 j c hj hv
     ·have:=(hφ.own j c hj).lt hv;omega
   ·rcases hb1 with hb1|hb1;·exact hb1.2 hfr
    ·exact K.hF _ (Du hφ.kept.size hb1)
  ·intro i i' c c' g _ _ h1 h2 _ _;rw[h1,h2]
 have heach:L2 (RV1 w' (Zf K V' φ true)) rs (res.map .val):=by
  clear hQ k hrun hspec
  induction hres with
  |nil=>exact .nil
  |cons h1 _ ih=>exact .cons (Rep.mono (λb hb _=>hb.elim) h1) ih
 obtain⟨h1,h2⟩:=dw (U:=(· <nx)) (Z:=Zf K V' φ) (res.map .val) rs nx φ heach (λi v hi=>by rw[fD]at hi;simp at hi) (λi hi=>by rw[fE]at hi;simp at hi);obtain⟨h3,h4⟩:=eM h1 h2;refine(k.out).out _ _ Q ⟨φ,?_⟩ hQ;rw[hd];refine hrel.put hlt h3 h4 ?_ slot_put;funext i;simp only[V',St.f,ai];by_cases e:q=i;·subst e;simp
 ·rw[D2 e,D2 (Ne.symm e)]
section
variable {K:Ctx}{V:EnvF}{U:Nat->Prop}{φ:Nat->Value}{a:Act}{w:World}
def nY (V:EnvF):List Operand->Option (List PV)
 | []=>some []
 |x::rest=>match V.get x,nY V rest with
  |some sv,some l=>match sv.ff with
   |some (true,p)=>some (p::l)
   |_=>none
  |_,_=>none
theorem s6 (h:RelW K V U φ a w): ∀(xs:List Operand) (ps:List PV),nY V xs=some ps->L2 (Rep w (Zf K V φ true)) (xs.map a.eval) ps
 | [],ps,hp=>by simp only[nY,D6]at hp;subst hp;exact .nil
 |x::rest,ps,hp=>by
  simp only[nY]at hp;split at hp
  ·rename_i sv l hx hl;split at hp
   ·rename_i p hff;obtain rfl:=D3 hp;exact .cons (bC h hx hff) (s6 h rest l hl)
   ·cases hp
  ·cases hp
end
theorem J.ct {K:Ctx}{ops:Array Oper}{o:Oper}{rest:List Oper}{sl:List (Nat×SV)}{ow:List (Nat×Option Own)}{nx:Nat}{R:St->Prop}{d:Nat}{x:Operand}{args:Array Operand}{tys:Array TypeId}{f:FuncId}{fx:Bool}{ps ps' res:List PV}
  (ho:o.op= .call { callee:= .value x,args:=args,argTypes:=tys }) (hg:wants ops (St.mk sl ow nx).f o=some true) (hd:o.dst=some d) (hlt:K.can d=true) (hx:(St.mk sl ow nx).f.get x=some (.val fx (.fn (.func f) [] [])))
  (hspec:Spec K.P f true ps' (res.map .val)) (hps:nY (St.mk sl ow nx).f args.toList=some ps) (hpe:ps=ps')
  (k:J K ops false rest ⟨(d,RV.one true nx (res.map .val))::sl,ow,nx⟩ R):J K ops false (o::rest) ⟨sl,ow,nx⟩ R:=by
 subst hpe;refine⟨TO.mk λa w Q hr hQ=> ?_⟩;obtain⟨φ,hφ⟩:=hr;unfold wpList;rw[D4 (aE hφ hg)];refine .inl ?_;obtain⟨hrf,_⟩:=ae hφ hx;generalize hvx:a.eval x=vx at hrf;cases hrf with
 |fn _ vs us _ _ hf hc=>
 cases hf;cases hc;obtain⟨fn,hfn,hbody,hname⟩:=hspec.isFn;have hrun:(execOp a.eval o).run K.P w= .ok (.enter f (args.toList.map a.eval).toArray) w:=by
  have hb:fn.body.isNone=false:=(by cases hfb:fn.body<;>simp_all);simp only[execOp,ho,resolve,hvx,Deferred.ofValue,DK,Dr,DA,invoke,callFunc,run_program,hfn,hname,hb,EF,if_false];congr 2;apply Array.ext';simp
 unfold Oper.wp;rw[hrun];refine(hspec.out w (Zf K (St.mk sl ow nx).f φ true) _ (s6 hφ _ _ hps)).mono ?_;rintro _ w' ⟨rs,rfl,hb,hret⟩;have hrel:=hφ.world hb;have hmono: ∀(Z Z':Nat->Prop),(∀b,Z b->Z' b)->∀(res:List PV) (rs:List Value),L2 (RV1 w' Z) rs (res.map RV.val)->L2 (RV1 w' Z') rs (res.map RV.val):=by
  intro Z Z' hz res
  induction res with
  |nil=>intro rs h;cases h;exact .nil
  |cons p res ih=>
   intro rs h;cases h with
   |cons h1 h2=>exact .cons (Rep.mono (λb hb _=>⟨hz b hb,rfl⟩) h1) (ih _ h2)
 have heach:L2 (RV1 w' (Zf K (St.mk sl ow nx).f φ true)) rs (res.map .val):=by
  refine hmono _ _ (λb hb=> ?_) res rs hret.each;obtain⟨hb1,_⟩:=hb;rcases hb1 with ⟨_,hb1⟩|hb1;·exact hb1
  ·refine⟨⟨.inl (Du hφ.kept.size hb1),λj c hj hv=> ?_⟩,λ_=>K.hF _ (Du hφ.kept.size hb1)⟩;have:=(hφ.own j c hj).lt hv;omega
 obtain⟨h1,h2⟩:=dw (U:=(· <nx)) (Z:=Zf K (St.mk sl ow nx).f φ) (res.map .val) rs nx φ heach (λi v hi=>by rw[fD]at hi;simp at hi) (λi hi=>by rw[fE]at hi;simp at hi);obtain⟨h3,h4⟩:=eM h1 h2;refine(k.out).out _ _ Q ⟨φ,?_⟩ hQ;rw[hd];exact hrel.put hlt h3 h4 Y slot_put
theorem T.scope {K:Ctx}{c:Code}{E:St}{Q:Exit->St->Prop}(hg: ∀l E,¬Q (.goto l) E)(h:T K c E Q):T K (.scope c) E Q:=
 ⟨λa w hr=>wp_scope_straight (wp_mono (h.out a w hr) λe a w hl=>by
  cases e with
  |goto l=>obtain⟨_,E',hq,_⟩:=hl;exact(hg l E' hq).elim
  |_=>exact hl)⟩
theorem Rel.fp {K:Ctx}{sl:List (Nat×SV)}{ow:List (Nat×Option Own)}{nx s:Nat}{fr:Bool}{cs:List PV}(hs:lk sl s=some (.fptr fr cs))(a:Act)(w:World)(h:Rel K ⟨sl,ow,nx⟩ a w):Rel K ⟨(s,.val fr (.ptr cs))::sl,ow,nx⟩ a w:=by
 obtain⟨φ,hφ⟩:=h;refine⟨φ,hφ.df,hφ.sz,hφ.old,hφ.kept,hφ.own,hφ.mine,hφ.inU,hφ.dis,?_,?_⟩
 ·intro t sv hsv;rcases slot_put t sv hsv with ⟨rfl,rfl⟩|⟨_,h⟩
  ·obtain⟨v,hv,b,o,xs,rfl,hz,hb,hl,h1,h2⟩:=hφ.slot t _ hs;exact⟨_,hv,Rep.ptr b o cs xs hz hb h1 h2 hl⟩
  ·exact hφ.slot t sv h
 ·intro t sv hsv;rcases slot_put t sv hsv with ⟨rfl,rfl⟩|⟨_,h⟩;·trivial
  ·exact hφ.sin t sv h
theorem J.mf {K:Ctx}{ops:Array Oper}{o:Oper}{rest:List Oper}{sl:List (Nat×SV)}{ow:List (Nat×Option Own)}{nx:Nat}{R:St->Prop}{d q:Nat}{f:FuncId}{x:Operand}{first caps:Array Operand}
  (ho:o.op= .makeFunc (.func f) first caps) (hg:wants ops (St.mk sl ow nx).f o=some true) (hd:o.dst=some d) (hlt:K.can d=true) (h1:first.toList=[x]) (h2:caps.toList=[]) (hx:(St.mk sl ow nx).f.get x=some (.ref q))
  (k:J K ops false rest ⟨(d,.fref f q)::sl,ow,nx⟩ R):J K ops false (o::rest) ⟨sl,ow,nx⟩ R:=by
 refine⟨TO.mk λa w Q hr hQ=> ?_⟩;obtain⟨φ,hφ⟩:=hr;unfold wpList;rw[D4 (aE hφ hg)];refine .inl ?_;obtain⟨hr0,hu⟩:=ae hφ hx;have hr0:a.eval x=φ q:=hr0;have e1:first= #[x]:=by cases first;simp_all
 have e2:caps= #[]:=(by cases caps;simp_all);have hrun:(execOp a.eval o).run K.P w= .ok (.value (.func (.func f) #[φ q] #[])) w:=by
  simp only[execOp,ho,e1,e2,GY,DZ,GG,hr0];simp[Instr.makeFunc]
 unfold Oper.wp;rw[hrun];refine(k.out).out _ _ Q ⟨φ,?_⟩ hQ;rw[hd];exact hφ.put hlt (sv:= .fref f q) Y hu Y slot_put
theorem J.cmf {K:Ctx}{ops:Array Oper}{o:Oper}{rest:List Oper}{sl:List (Nat×SV)}{ow:List (Nat×Option Own)}{nx:Nat}{R:St->Prop}{d:Nat}{x:Operand}{args:Array Operand}{tys:Array TypeId}{f:FuncId}{fr:Bool}{q sz:Nat}{e:TypeId}{rows rows' rows2:List (List PV)}{ps ps' res:List PV}
  (ho:o.op= .call { callee:= .value x,args:=args,argTypes:=tys }) (hg:wants ops (St.mk sl ow nx).f o=some true) (hd:o.dst=some d) (hlt:K.can d=true) (hx:(St.mk sl ow nx).f.get x=some (.fref f q))
  (hq:(St.mk sl ow nx).f.own q=some (.sl e sz fr rows2)) (hne:(args.toList.all λy=>nr q ((St.mk sl ow nx).f.get y))=true) (hspec:SpecM K.P f e sz rows ps' rows' res) (hrw:rows2=rows) (hps:bW (St.mk sl ow nx).f false args.toList=some ps) (hpe:ps=ps')
  (k:J K ops false rest ⟨(d,RV.one true nx (res.map .val))::sl,(q,some (.sl e sz fr rows'))::ow,nx⟩ R):J K ops false (o::rest) ⟨sl,ow,nx⟩ R:=by
 subst hrw hpe;refine⟨TO.mk λa w Q hr hQ=> ?_⟩;obtain⟨φ,hφ⟩:=hr;unfold wpList;rw[D4 (aE hφ hg)];refine .inl ?_;obtain⟨hrf,_⟩:=ae hφ hx;have hrf:a.eval x= .func (.func f) #[φ q] #[]:=hrf;obtain⟨fn,hfn,hbody,hname⟩:=hspec.isFn;have hrun:(execOp a.eval o).run K.P w= .ok (.enter f (φ q::args.toList.map a.eval).toArray) w:=by
  have hb:fn.body.isNone=false:=(by cases hfb:fn.body<;>simp_all);simp only[execOp,ho,resolve,hrf,Deferred.ofValue,DK,Dr,DA,invoke,callFunc,run_program,hfn,hname,hb,EF,if_false];congr 2;apply Array.ext';simp
 unfold Oper.wp;rw[hrun];have hoq:=hφ.own q _ hq;refine(hspec.out w (Zf K (St.mk sl ow nx).f φ fr) (φ q) (args.toList.map a.eval) hoq (λb hb=>hb.1.2 q _ hq) (AW hφ hq args.toList ps hps hne)).mono ?_;rintro _ w' ⟨rs,rfl,hos,htape,hout,hsize,hblk,hown',hres⟩;let V':EnvF:=⟨(St.mk sl ow nx).f.slot,λi=>if i=q then some (.sl e sz fr rows')else(St.mk sl ow nx).f.own i⟩;have hrel:RelW K V' (· <nx) φ a w':=by
  refine hφ.step (λb=>VB (φ q) b) (λi=>i=q) Y (λ_ hu=>hu) (λ_ _=>rfl) hos htape hout hsize (λb hb hne=>hblk b hb hne) ?_ ?_ ?_ ?_
  ·intro b _ hb;exact⟨q,_,hq,hb,rfl⟩
  ·intro i c hi hne;simpa[V',hne]using hi
  ·intro i c hi hie;subst hie;simp only[V',D4,D6]at hi;subst hi;refine⟨hφ.inU i _ hq,?_,λg hg=> .inr ⟨i,_,hq,hg,rfl⟩⟩;obtain⟨xs',hwn,hl,h1,h2⟩:=hown';refine⟨xs',hwn,Rep.monoL (λb hb _=>⟨?_,rfl⟩) hl,h1,h2⟩;obtain⟨hb1,hb2⟩:=hb;refine⟨⟨?_,λj c hj hv=> ?_⟩,λhfr=> ?_⟩
   ·rcases hb1 with hb1|hb1;·exact hb1.1.1
    ·exact .inl (Du hφ.kept.size hb1)
   ·by_cases e:j=i;·subst e;exact hb2 hv
    ·simp only[V',D2 e]at hj;rcases hb1 with hb1|hb1;·exact hb1.1.2 j c hj hv
     ·have:=(hφ.own j c hj).lt hv;omega
   ·rcases hb1 with hb1|hb1;·exact hb1.2 hfr
    ·exact K.hF _ (Du hφ.kept.size hb1)
  ·intro i i' c c' g _ _ h1 h2 _ _;rw[h1,h2]
 have heach:L2 (RV1 w' (Zf K V' φ true)) rs (res.map .val):=by
  clear hQ k hrun hspec
  induction hres with
  |nil=>exact .nil
  |cons h1 _ ih=>exact .cons (Rep.mono (λb hb _=>hb.elim) h1) ih
 obtain⟨h1,h2⟩:=dw (U:=(· <nx)) (Z:=Zf K V' φ) (res.map .val) rs nx φ heach (λi v hi=>by rw[fD]at hi;simp at hi) (λi hi=>by rw[fE]at hi;simp at hi);obtain⟨h3,h4⟩:=eM h1 h2;refine(k.out).out _ _ Q ⟨φ,?_⟩ hQ;rw[hd];refine hrel.put hlt h3 h4 ?_ slot_put;funext i;simp only[V',St.f,ai];by_cases e:q=i;·subst e;simp
 ·rw[D2 e,D2 (Ne.symm e)]
section
variable {K:Ctx}{sl:List (Nat×SV)}{ow:List (Nat×Option Own)}{nx:Nat}{a:Act}{w:World}
theorem RelW.reslot {V V':EnvF}{U:Nat->Prop}{φ:Nat->Value}(h:RelW K V U φ a w){s:Nat}{v:Value}{sv:SV}(hv:a.tmps.getD s undef=v)(hr:aU w (Zf K V φ) φ v sv)(hl:sv.inU U)(hown:V'.own=V.own)
  (hslot: ∀t sv',V'.slot t=some sv'->(t=s/\sv'=sv)∨(t≠s/\V.slot t=some sv')):RelW K V' U φ a w:=by
 have hZ:Zf K V' φ=Zf K V φ:=(by funext f b;simp only[Zf,Zof,hown]);refine⟨h.df,h.sz,h.old,h.kept,?_,?_,?_,?_,?_,?_⟩;·rw[hZ,hown];exact h.own
 ·rw[hown];exact h.mine
 ·rw[hown];exact h.inU
 ·rw[hown];exact h.dis
 ·intro t sv' ht;rcases hslot t sv' ht with ⟨rfl,rfl⟩|⟨_,h2⟩;·exact⟨v,hv,by rw[hZ];exact hr⟩
  ·rw[hZ];exact h.slot t sv' h2
 ·intro t sv' ht;rcases hslot t sv' ht with ⟨rfl,rfl⟩|⟨_,h2⟩;·exact hl
  ·exact h.sin t sv' h2
theorem eI {V:EnvF}{U:Nat->Prop}{φ:Nat->Value}(h:RelW K V U φ a w){g:Nat}(hg:true=true): ∃v,a.tmps.getD g undef=v:=⟨_,rfl⟩
def SV.num:SV->Option Nat
 | .ref o=>some o
 | .optr o 0 0 0=>some o
 | .eq _ o=>some o
 |_=>none
theorem Cg {U:Nat->Prop}{s:SV}{o:Nat}(h:s.inU U)(hn:s.num=some o):U o:=by
 cases s with
 |ref q=>simp only[SV.num,D6]at hn;subst hn;exact h
 |optr q i off st=>
  simp only[SV.num]at hn;split at hn;·rename_i e;cases e
  ·rename_i e;cases e;cases hn;exact h
  ·rename_i e;cases e
  ·cases hn
 |eq u q=>simp only[SV.num,D6]at hn;subst hn;exact h
 |_=>simp[SV.num]at hn
theorem Rel.name (g:Nat){s o:Nat}{sv:SV}(hg:true=true)(hs:lk sl s=some sv)(hn:sv.num=some o)(h:Rel K ⟨sl,ow,nx⟩ a w): ∃u,Rel K ⟨(g,.eq u o)::sl,ow,nx⟩ a w:=by
 obtain⟨φ,hφ⟩:=h;obtain⟨v,hv⟩:=eI hφ hg;exact⟨φ o,φ,hφ.reslot (sv:= .eq (φ o) o) hv Y (Cg (U:=(· <nx)) (hφ.sin s sv hs) hn) Y slot_put⟩
theorem T.name {c:Code}{Q:Exit->St->Prop}(g:Nat){s o:Nat}{sv:SV}(hg:true=true)(hs:lk sl s=some sv)(hn:sv.num=some o)(k: ∀u,T K c ⟨(g,.eq u o)::sl,ow,nx⟩ Q):T K c ⟨sl,ow,nx⟩ Q:=
 ⟨λa w hr=>by obtain⟨u,h⟩:=Rel.name g hg hs hn hr;exact(k u).out a w h⟩
theorem J.name {ops:Array Oper}{l:List Oper}{R:St->Prop}(g:Nat){s o:Nat}{sv:SV}(hg:true=true)(hs:lk sl s=some sv)(hn:sv.num=some o)(k: ∀u,J K ops false l ⟨(g,.eq u o)::sl,ow,nx⟩ R):J K ops false l ⟨sl,ow,nx⟩ R:=
 ⟨TO.mk λa w Q hr hQ=>by obtain⟨u,h⟩:=Rel.name g hg hs hn hr;exact(k u).out.out a w Q h hQ⟩
theorem Rel.raw {s g o:Nat}{u:Value}{c:Own}{sv:SV}(hs:lk sl s=some sv)(hn:sv= .ref o∨sv= .optr o 0 0 0)(hg:lk sl g=some (.eq u o))(ho:(St.mk sl ow nx).f.own o=some c)(hc:(match c with| .fam .. =>false| .box .. =>true|_=>(match sv with| .ref _=>true|_=>false))=true)(a:Act)(w:World)(h:Rel K ⟨sl,ow,nx⟩ a w):
  Rel K ⟨(s,.val true (.raw u))::sl,ow,nx⟩ a w:=by
 obtain⟨φ,hφ⟩:=h;obtain⟨v,hv,hr⟩:=hφ.slot s sv hs;obtain⟨_,_,he⟩:=hφ.slot g _ hg;have he:φ o=u:=he;have hown:=hφ.own o c ho;have hone:(φ o).oneCell'=true/\v=φ o:=by
  cases c with
  |sl e sz fr rows=>
   obtain⟨xs,h1,_⟩:=hown;constructor;·rcases h1.2 with ⟨e,_⟩|⟨g',cap,cur,e,_⟩<;>rw[e]<;>rfl
   ·rcases hn with rfl|rfl;·exact hr
    ·simp at hc
  |box fr row=>
   obtain⟨g',t,cur,e,_⟩:=hown;constructor;·rw[e];rfl
   ·rcases hn with rfl|rfl;·exact hr
    ·obtain⟨g2,h2,h3⟩:=hr;rw[e]at h2⊢;simp[ax]at h2;subst h2;simpa using h3
  |fam e sz fr l=>simp at hc
  |mp fr b l=>
   obtain⟨g',es,clock,e,_⟩:=hown;refine⟨by rw[e];rfl,?_⟩;rcases hn with rfl|rfl;·exact hr
   ·simp at hc
  |it m since seen last=>
   obtain⟨g',e,_⟩:=hown;refine⟨by rw[e];rfl,?_⟩;rcases hn with rfl|rfl;·exact hr
   ·simp at hc
  |sit s pos=>
   obtain⟨g',e,_⟩:=hown;refine⟨by rw[e];rfl,?_⟩;rcases hn with rfl|rfl;·exact hr
   ·simp at hc
 refine⟨φ,hφ.reslot (sv:= .val true (.raw u)) hv ?_ trivial Y slot_put⟩;show Rep w _ v (.raw u);rw[hone.2,he];exact .raw u (he▸hone.1)
theorem Rel.deraw {s g o:Nat}{u:Value}{fr:Bool}(hs:lk sl s=some (.val fr (.raw u)))(hg:lk sl g=some (.eq u o))(a:Act)(w:World)(h:Rel K ⟨sl,ow,nx⟩ a w):Rel K ⟨(s,.ref o)::sl,ow,nx⟩ a w:=by
 obtain⟨φ,hφ⟩:=h;obtain⟨v,hv,hr⟩:=hφ.slot s _ hs;obtain⟨_,_,he⟩:=hφ.slot g _ hg;have he:φ o=u:=he;have hr:Rep w _ v (.raw u):=hr;refine⟨φ,hφ.reslot (sv:= .ref o) hv ?_ (hφ.sin g (.eq u o) hg) Y slot_put⟩;show v=φ o;cases hr;exact he.symm
theorem Rel.derawp {s g o:Nat}{u:Value}{fr fr':Bool}{row:List PV}(hs:lk sl s=some (.val fr (.raw u)))(hg:lk sl g=some (.eq u o))(ho:(St.mk sl ow nx).f.own o=some (.box fr' row))(a:Act)(w:World)(h:Rel K ⟨sl,ow,nx⟩ a w):Rel K ⟨(s,.optr o 0 0 0)::sl,ow,nx⟩ a w:=by
 obtain⟨φ,hφ⟩:=h;obtain⟨v,hv,hr⟩:=hφ.slot s _ hs;obtain⟨_,_,he⟩:=hφ.slot g _ hg;have he:φ o=u:=he;have hr:Rep w _ v (.raw u):=hr;obtain⟨g',t,cur,e,_⟩:=hφ.own o _ ho;refine⟨φ,hφ.reslot (sv:= .optr o 0 0 0) hv ?_ (hφ.sin g (.eq u o) hg) Y slot_put⟩;refine⟨g',by rw[e];rfl,?_⟩;cases hr;rw[<-he,e]
end
def Own.fr:Own->Bool
 | .sl _ _ fr _=>fr
 | .box fr _=>fr
 | .fam _ _ fr _=>fr
 | .mp fr _ _=>fr
 | .it .. =>true
 | .sit .. =>true
def Own.reg (f:Bool):Own->Own
 | .sl e sz _ rows=> .sl e sz f rows
 | .box _ row=> .box f row
 | .fam e sz _ l=> .fam e sz f l
 | .mp _ b l=> .mp f b l
 | .it m since seen last=> .it m since seen last
 | .sit s pos=> .sit s pos
theorem oI {w:World}{Zb:Bool->Nat->Prop}{Z:Nat->Prop}{u:Value}{c:Own}(h:ar w Zb u c)(hz: ∀b,Zb c.fr b->Z b):ar w (λ_=>Z) u c:=by
 cases c with
 |sl e sz fr rows=>
  have h:dy w (Zb fr) u e sz rows:=h;show dy w Z u e sz rows;exact h.mono (λ_ _=>rfl) λb hb _=>⟨hz b hb,rfl⟩
 |box fr row=>
  obtain⟨g',t,cur,rfl,hh,hr,h1⟩:=h;exact⟨g',t,cur,rfl,hh,Rep.monoL (λb hb _=>⟨hz b hb,rfl⟩) hr,h1⟩
 |fam e sz fr l=>
  obtain⟨rfl,h,h1⟩:=h;exact⟨rfl,λp hp=>(h p hp).mono (λ_ _=>rfl) λb hb _=>⟨hz b hb,rfl⟩,h1⟩
 |mp fr b l=>
  obtain⟨g',es,clock,rfl,hh,hr,h1⟩:=h;exact⟨g',es,clock,rfl,hh,hr.imp λ_ _ h=>⟨h.1,h.2.mono λb hb _=>⟨hz b hb,rfl⟩⟩,h1⟩
 |it m since seen last=>exact h
 |sit s pos=>exact h
theorem gN {w:World}{Zb:Bool->Nat->Prop}{Z:Nat->Prop}{f:Bool}{u:Value}{c:Own}(h:ar w (λ_=>Z) u c)(hz: ∀b,Z b->Zb f b):ar w Zb u (c.reg f):=by
 cases c with
 |sl e sz fr rows=>
  have h:dy w Z u e sz rows:=h;show dy w (Zb f) u e sz rows;exact h.mono (λ_ _=>rfl) λb hb _=>⟨hz b hb,rfl⟩
 |box fr row=>
  obtain⟨g',t,cur,rfl,hh,hr,h1⟩:=h;exact⟨g',t,cur,rfl,hh,Rep.monoL (λb hb _=>⟨hz b hb,rfl⟩) hr,h1⟩
 |fam e sz fr l=>
  obtain⟨rfl,h,h1⟩:=h;exact⟨rfl,λp hp=>(h p hp).mono (λ_ _=>rfl) λb hb _=>⟨hz b hb,rfl⟩,h1⟩
 |mp fr b l=>
  obtain⟨g',es,clock,rfl,hh,hr,h1⟩:=h;exact⟨g',es,clock,rfl,hh,hr.imp λ_ _ h=>⟨h.1,h.2.mono λb hb _=>⟨hz b hb,rfl⟩⟩,h1⟩
 |it m since seen last=>exact h
 |sit s pos=>exact h
def Off (us:List Value)(b:Nat):Prop:= ∀u,u∈us->¬VB u b
def gF (us:List Value):Prop:= ∀(i j:Nat) (u v:Value) (g:Nat),us[i]? =some u->us[j]? =some v->VB u g->VB v g->i=j
structure SpecO (P:Program)(f:FuncId)(al:Bool)(us:List Value)(cs:List Own)(args:List PV)(cs':List Own)(news:List Value->List Own)(res:List Value->List PV):Prop where
 isFn: ∃fn,P.funcs[f]? =some fn/\fn.body.isSome=true/\(fn.name== "runtime.NumGoroutine")=false
 out: ∀(w:World) (Z1:Nat->Prop) (vs:List Value),L2 (ar w λ_=>Z1) us cs->gF us->(∀b,Z1 b->Off us b)->L2 (Rep w λb=>Off us b/\(al=true->Z1 b)) vs args->
  Calls P f vs.toArray w λx w'=> ∃rs ns:List Value,x= .returned (l8 rs)/\w'.os=w.os/\w'.tape=w.tape/\w'.output=w.output/\w.heap.size<=w'.heap.size/\(∀b,b<w.heap.size->Off us b->w'.heap[b]? =w.heap[b]?)/\
   L2 (ar w' λ_ b=>(Z1 b∨w.heap.size<=b)/\Off (us++ns) b) us cs'/\L2 (ar w' λ_ b=>(Z1 b∨w.heap.size<=b)/\Off (us++ns) b) ns (news ns)/\(∀u g,u∈ns->VB u g->w.heap.size<=g)/\gF ns/\
   L2 (Rep w' λb=>(Z1 b∨w.heap.size<=b)/\Off (us++ns) b) rs (res ns)
def lG (f:Bool):Nat->List PV->List (Nat×SV)
 |_,[]=>[]
 |k,p::ps=>(k,.val f p)::lG f (k+1) ps
def wT:Nat->List Nat->List Value->List (Nat×SV)
 |i,g::gs,u::us=>(g,.eq u i)::wT (i+1) gs us
 |_,_,_=>[]
def tO:Nat->List Own->List (Nat×Option Own)
 |_,[]=>[]
 |i,c::cs=>(i,some (c.reg true))::tO (i+1) cs
def xQ (al:Bool)(gs:List Nat)(us:List Value)(cs:List Own)(args:List PV):St:=⟨lG al 0 args++wT 0 gs us,tO 0 cs,cs.length⟩
def pK (E:EnvF):List Nat->List Value->List Own->List Nat->Prop
 |g::gs,u::us,c::cs,q::qs=>E.slot g=some (.eq u q)/\E.own q=some c/\c.fr=true/\pK E gs us cs qs
 | [],[],[],[]=>True
 |_,_,_,_=>False
def Dk (P:Program)(fn:Func)(us:List Value)(gs:List Nat)(cs':List Own)(news:List Value->List Own)(hs:List Nat)(res:List Value->List PV)(x:Exit)(E:St):Prop:=
 match x with
 | .normal| .ret=> ∃(qs rs:List Nat) (ns:List Value),pK E.f gs us cs' qs/\pK E.f hs ns (news ns) rs/\dup (qs++rs)=false/\Ret P E.f false fn.results.toList ((res ns).map .val) []
 |_=>False
def Ctx.ofO (P:Program)(w0:World)(us:List Value)(Z1:Nat->Prop)(n:Nat):Ctx:=⟨P,w0,Off us,λb=> ∃u,u∈us/\VB u b,n,λb=>w0.heap.size<=b∨Z1 b,λ_ h=> .inl h,0,[],[]⟩
theorem lk_app {α:Type}: ∀(a b:List (Nat×α)) (s:Nat) (v:α),lk (a++b) s=some v->lk a s=some v∨lk b s=some v
 | [],b,s,v,h=> .inr h
 |(k,x)::a,b,s,v,h=>by
  rw[Ei,ai]at h;rw[ai];by_cases e:k=s;·rw[D4 e]at h⊢;exact .inl h
  ·rw[D2 e]at h⊢;exact lk_app a b s v h
theorem oY {f:Bool}: ∀(ps:List PV) (k s:Nat) (sv:SV),lk (lG f k ps) s=some sv->∃j p,s=k+j/\ps[j]? =some p/\sv= .val f p
 | [],k,s,sv,h=>by simp[lG,lk]at h
 |p::ps,k,s,sv,h=>by
  simp only[lG,ai]at h;by_cases e:k=s
  ·rw[D4 e]at h;obtain rfl:=D3 h;exact⟨0,p,by omega,by simp,rfl⟩
  ·rw[D2 e]at h;obtain⟨j,q,h1,h2,h3⟩:=oY ps (k+1) s sv h;exact⟨j+1,q,by omega,by simpa using h2,h3⟩
theorem lz: ∀(gs:List Nat) (us:List Value) (i s:Nat) (sv:SV),lk (wT i gs us) s=some sv->∃j u,s∈gs/\us[j]? =some u/\sv= .eq u (i+j)
 | [],us,i,s,sv,h=>by simp[wT,lk]at h
 |g::gs,[],i,s,sv,h=>by simp[wT,lk]at h
 |g::gs,u::us,i,s,sv,h=>by
  simp only[wT,ai]at h;by_cases e:g=s
  ·rw[D4 e]at h;obtain rfl:=D3 h;exact⟨0,u,by simp[e],by simp,rfl⟩
  ·rw[D2 e]at h;obtain⟨j,v,h1,h2,h3⟩:=lz gs us (i+1) s sv h;exact⟨j+1,v,.tail _ h1,by simpa using h2,by rw[h3];congr 1;omega⟩
theorem uj: ∀(cs:List Own) (i o:Nat) (c:Own),(lk (tO i cs) o).join=some c->∃j c0,o=i+j/\cs[j]? =some c0/\c=c0.reg true
 | [],i,o,c,h=>by simp[tO,lk]at h
 |c0::cs,i,o,c,h=>by
  simp only[tO,ai]at h;by_cases e:i=o
  ·rw[D4 e]at h;exact⟨0,c0,by omega,by simp,(D3 h).symm⟩
  ·rw[D2 e]at h;obtain⟨j,c1,h1,h2,h3⟩:=uj cs (i+1) o c h;exact⟨j+1,c1,by omega,by simpa using h2,h3⟩
theorem jc {E:EnvF}: ∀{gs:List Nat} {us:List Value} {cs:List Own} {qs:List Nat},pK E gs us cs qs->∀(i:Nat) (u:Value),us[i]? =some u->∃q c g,qs[i]? =some q/\cs[i]? =some c/\E.own q=some c/\c.fr=true/\E.slot g=some (.eq u q)
 |g::gs,u::us,c::cs,q::qs,h,i,v,hv=>by
  obtain⟨h1,h2,h3,h4⟩:=h;cases i with
  |zero=>simp at hv;subst hv;exact⟨q,c,g,rfl,rfl,h2,h3,h1⟩
  |succ i=>simp at hv;simpa using jc h4 i v hv
 | [],[],[],[],_,i,v,hv=>by simp at hv
theorem my {E:EnvF}{R:Value->Own->Prop}: ∀{gs:List Nat} {us:List Value} {cs:List Own} {qs:List Nat},pK E gs us cs qs->(∀u q c g,u∈us->E.slot g=some (.eq u q)->E.own q=some c->c.fr=true->R u c)->L2 R us cs
 |g::gs,u::us,c::cs,q::qs,h,hr=>by
  obtain⟨h1,h2,h3,h4⟩:=h;exact .cons (hr u q c g (.head _) h1 h2 h3) (my h4 λu q c g hu=>hr u q c g (.tail _ hu))
 | [],[],[],[],_,_=> .nil
theorem ou {K:Ctx}{E:EnvF}{U:Nat->Prop}{φ:Nat->Value}{a:Act}{w:World}(h:RelW K E U φ a w): ∀{rs:List ResultVar} {res:List PV},Ret K.P E false rs (res.map .val) []->
  ∃ws:List Value,(rs.mapM (bZ a.tmps)).run K.P w= .ok ws w/\L2 (Rep w (Zf K E φ true)) ws res
 | [],[],_=>⟨[],rfl,.nil⟩
 |_::rs,p::res,hr=>by
  have hstep: ∀{t:ResultVar},(∃v,(bZ a.tmps t).run K.P w= .ok v w/\Rep w (Zf K E φ true) v p)->Ret K.P E false rs (res.map .val) []->∃ws:List Value,((t::rs).mapM (bZ a.tmps)).run K.P w= .ok ws w/\L2 (Rep w (Zf K E φ true)) ws (p::res):=by
   rintro t ⟨v,hv,hrep⟩ hrest;obtain⟨ws,h1,h2⟩:=ou h hrest;refine⟨v::ws,?_,.cons hrep h2⟩;simp only[Fg,DK,hv,DA,h1,Dr]
  cases hr with
  | @val t sv fr _ _ _ _ hs hff hfr hrest=>
   obtain rfl:=hfr Y;have hx:E.get (.tmp t)=some sv:=hs;exact hstep ⟨_,by simp only[bZ,Dr];rfl,bC h hx hff⟩ hrest
  | @cell t ty q fr row _ _ _ _ hs hq hp hfr hrest=>
   obtain rfl:=hfr Y;refine hstep ?_ hrest;obtain⟨v,hv,g,hg,e⟩:=h.slot t _ hs;have hat:(Own.box true row).at_ 0 0 0=some (true,row):=rfl;have hc:=ju (h.own q _ hq) hat hg;obtain⟨u,hu,hrep⟩:=fS hc hp;refine⟨u,?_,hrep⟩;have e2:a.tmps.getD t undef= .pointer (some ⟨g,0,none⟩):=by
    rw[hv,e]
   simp only[bZ,e2,asAddr,DK,Dr,DA];simpa[Instr.loadAt,Instr.sureAddr]using hu
 | [],_::_,hr=>by cases hr
 |_::_,[],hr=>by cases hr
theorem SpecO.body {P:Program} {f:FuncId} {fn:Func} {c:Code} {al:Bool} {us:List Value} {cs cs':List Own} {news:List Value->List Own} {args:List PV} {res:List Value->List PV} (gs hs:List Nat) (hf:P.funcs[f]? =some fn) (hb:fn.body=some c) (hn:(fn.name== "runtime.NumGoroutine")=false) (hl:Nat.ble args.length fn.ntmps=true)
  (hgs:true=true) (h: ∀w0 Z1,T (Ctx.ofO P w0 us Z1 fn.ntmps) c (xQ al gs us cs args) (Dk P fn us gs cs' news hs res)):SpecO P f al us cs args cs' news res:=by
 refine⟨⟨fn,hf,by rw[hb];rfl,hn⟩,λw Z1 vs hown hap hz1 hvs=> ?_⟩;have hle:=Dy hl;have hvl:=hvs.length;have hul:=hown.length;refine calls_of_wp hf hb ?_;let φ0:Nat->Value:=λi=>us.getD i undef;have hφ0: ∀j u,us[j]? =some u->φ0 j=u:=λj u hu=>(by simp[φ0,D0,hu]);have hown0: ∀o c,(xQ al gs us cs args).f.own o=some c->∃c0 u,cs[o]? =some c0/\us[o]? =some u/\c=c0.reg true/\φ0 o=u/\ar w (λ_=>Z1) u c0:=by
  intro o c ho;obtain⟨j,c0,h1,h2,h3⟩:=uj cs 0 o c ho;obtain rfl:o=j:=(by omega);obtain⟨u,hu,hr⟩:=hown.get h2;exact⟨c0,u,h2,hu,h3,hφ0 _ _ hu,hr⟩
 have hoff: ∀b,Off us b->∀o c,(xQ al gs us cs args).f.own o=some c->¬VB (φ0 o) b:=by
  intro b hb o c ho;obtain⟨_,u,_,hu,_,e,_⟩:=hown0 o c ho;rw[e];exact hb u (D7 hu)
 have hrel:Rel (Ctx.ofO P w us Z1 fn.ntmps) (xQ al gs us cs args) { tmps:=vs.toArray++Array.replicate (fn.ntmps-vs.toArray.size) undef,defers:=[] } w:=by
  have hsz:(vs.toArray++Array.replicate (fn.ntmps-vs.toArray.size) undef).size=fn.ntmps:=(by simp;omega);have ht: ∀(j:Nat) v,vs[j]? =some v->(vs.toArray++Array.replicate (fn.ntmps-vs.toArray.size) undef)[j]? =some v:=by
   intro j v hv;have hj:j<vs.length:=(D5.1 hv).1;rw[FJ (by simpa using hj)];simpa using hv
  have htd: ∀(j:Nat) v,vs[j]? =some v->(vs.toArray++Array.replicate (fn.ntmps-vs.toArray.size) undef).getD j undef=v:=λj v h=>(by rw[E5,ht j v h];rfl);refine⟨φ0,rfl,hsz,λs v hs=>DU hs (EO s),⟨rfl,rfl,rfl,DL _,λ_ _ _=>rfl⟩,?_,?_,?_,?_,?_,?_⟩
  ·intro o c ho;obtain⟨c0,u,h1,h2,rfl,e,hr⟩:=hown0 o c ho;rw[e];exact gN hr λb hb=>⟨⟨.inr (hz1 b hb),hoff b (hz1 b hb)⟩,λ_=> .inr hb⟩
  ·intro o c g ho hg;obtain⟨_,u,_,hu,_,e,_⟩:=hown0 o c ho;rw[e]at hg;exact .inr ⟨u,D7 hu,hg⟩
  ·intro o c ho;obtain⟨_,u,h1,_⟩:=hown0 o c ho;exact(D5.1 h1).1
  ·intro o o' c c' g ho ho' hg hg';obtain⟨_,u,_,hu,_,e,_⟩:=hown0 o c ho;obtain⟨_,u',_,hu',_,e',_⟩:=hown0 o' c' ho';rw[e]at hg;rw[e']at hg';exact hap o o' u u' g hu hu' hg hg'
  ·intro s sv hs;rcases lk_app _ _ s sv hs with h1|h1
   ·obtain⟨j,p,rfl,hp,rfl⟩:=oY args 0 s sv h1;obtain⟨v,hv,hr⟩:=hvs.get hp;refine⟨v,htd (0+j) v (by simpa using hv),?_⟩;exact Rep.mono (λb hb _=>⟨⟨⟨.inr hb.1,hoff b hb.1⟩,λe=> .inr (hb.2 e)⟩,rfl⟩) hr
   ·obtain⟨j,u,h2,h3,rfl⟩:=lz gs us 0 s sv h1;exact⟨_,rfl,by show φ0 (0+j)=u;rw[Ew];exact hφ0 j u h3⟩
  ·intro s sv hs;rcases lk_app _ _ s sv hs with h1|h1
   ·obtain⟨j,p,rfl,hp,rfl⟩:=oY args 0 s sv h1;trivial
   ·obtain⟨j,u,h2,h3,rfl⟩:=lz gs us 0 s sv h1;have:j<us.length:=(D5.1 h3).1;show 0+j<cs.length;omega
 refine wp_mono ((h w Z1).out _ w hrel) λx a w' ⟨hfe,E,hq,φ,hφ⟩=> ?_;have key:(∃(qs rs:List Nat) (ns:List Value),pK E.f gs us cs' qs/\pK E.f hs ns (news ns) rs/\dup (qs++rs)=false/\Ret P E.f false fn.results.toList ((res ns).map .val) [])->
   a.defers=[]/\∃v,(results fn a.tmps).run P w'= .ok v w'/\∃rs ns:List Value,Ending.returned v= .returned (l8 rs)/\w'.os=w.os/\w'.tape=w.tape/\w'.output=w.output/\w.heap.size<=w'.heap.size/\(∀b,b<w.heap.size->Off us b->w'.heap[b]? =w.heap[b]?)/\
   L2 (ar w' λ_ b=>(Z1 b∨w.heap.size<=b)/\Off (us++ns) b) us cs'/\L2 (ar w' λ_ b=>(Z1 b∨w.heap.size<=b)/\Off (us++ns) b) ns (news ns)/\(∀u g,u∈ns->VB u g->w.heap.size<=g)/\gF ns/\
   L2 (Rep w' λb=>(Z1 b∨w.heap.size<=b)/\Off (us++ns) b) rs (res ns):=by
  rintro⟨qs,rs,ns,hk1,hk2,hdup,hret⟩;obtain⟨ws,h1,h2⟩:=ou hφ hret;have hk:=hφ.kept;have heq: ∀g u q,E.f.slot g=some (.eq u q)->φ q=u:=λg u q hg=>(by obtain⟨_,_,e⟩:=hφ.slot g _ hg;exact e);have hzz: ∀b,Zf (Ctx.ofO P w us Z1 fn.ntmps) E.f φ true b->(Z1 b∨w.heap.size<=b)/\Off (us++ns) b:=by
   intro b hb;refine⟨(hb.2 Y).elim .inr .inl,λu hu=> ?_⟩;rcases DT.1 hu with hu|hu
   ·obtain⟨i,hi⟩:=DH hu;obtain⟨q,c,g,_,_,h3,_,h5⟩:=jc hk1 i u hi;rw[<-heq g u q h5];exact hb.1.2 q c h3
   ·obtain⟨i,hi⟩:=DH hu;obtain⟨q,c,g,_,_,h3,_,h5⟩:=jc hk2 i u hi;rw[<-heq g u q h5];exact hb.1.2 q c h3
  have hto: ∀u q c g,E.f.slot g=some (.eq u q)->E.f.own q=some c->c.fr=true->ar w' (λ_ b=>(Z1 b∨w.heap.size<=b)/\Off (us++ns) b) u c:=by
   intro u q c g hg ho hfr;rw[<-heq g u q hg];exact oI (hφ.own q c ho) (by rw[hfr];exact hzz)
  have hinj:=fz (qs++rs) hdup;have hat: ∀i u,ns[i]? =some u->∃q c,rs[i]? =some q/\E.f.own q=some c/\φ q=u:=λi u hi=>by
   obtain⟨q,c,g,h3,_,h4,_,h5⟩:=jc hk2 i u hi;exact⟨q,c,h3,h4,heq g u q h5⟩
  refine⟨hφ.df,l8 ws,?_,ws,ns,rfl,hk.os,hk.tape,hk.output,hk.size,λb hb hne=>hk.block b hb (λ⟨u,hu,hv⟩=>hne u hu hv),my hk1 λu q c g _ hg ho hfr=>hto u q c g hg ho hfr,my hk2 λu q c g _ hg ho hfr=>hto u q c g hg ho hfr,?_,?_,h2.imp λv p hp=>Rep.mono (λb hb _=>⟨hzz b hb,rfl⟩) hp⟩
  ·have e:results fn a.tmps=(do let vs<-fn.results.mapM (bZ a.tmps);pure (if h:vs.size=1 then vs[0]else .tuple vs)):=by
    unfold results;congr
   have h1':(fn.results.toList.mapM (bZ a.tmps)).run P w'= .ok ws w':=h1;rw[e,FO];simp only[DK,Gw,h1',DA];cases ws with
   |nil=>rfl
   |cons v ws=>cases ws with
    |nil=>rfl
    |cons v' ws=>rfl
  ·intro u g hu hg;obtain⟨i,hi⟩:=DH hu;obtain⟨q,c,h3,h4,rfl⟩:=hat i u hi;rcases hφ.mine q c g h4 hg with hge|⟨v,hv,hvg⟩;·exact hge
   ·exfalso;obtain⟨j,hj⟩:=DH hv;obtain⟨q',c',g',h5,_,h6,_,h7⟩:=jc hk1 j v hj;have e:=heq g' v q' h7;rw[<-e]at hvg;have:=hφ.dis q q' c c' g h4 h6 hg hvg;subst this;have hjl:j<qs.length:=(D5.1 h5).1;have:=hinj j (qs.length+i) q (by rw[E9 hjl];exact h5) (by rw[Dw (by omega)];simpa using h3);omega
  ·intro i j u v g hi hj hg hg';obtain⟨q,c,h3,h4,rfl⟩:=hat i u hi;obtain⟨q',c',h5,h6,rfl⟩:=hat j v hj;have:=hφ.dis q q' c c' g h4 h6 hg hg';subst this;have:=hinj (qs.length+i) (qs.length+j) q (by rw[Dw (by omega)];simpa using h3) (by rw[Dw (by omega)];simpa using h5);omega
 cases x with
 |normal=>exact key hq
 |ret=>exact key hq
 |exit id=>exact hq.elim
 |goto l=>exact hq.elim
 |panic ch=>simp[fine]at hfe
 |outgrown=>simp[fine]at hfe
theorem L2.ofGet {α β:Type}{R:α->β->Prop}: ∀{as:List α} {bs:List β},as.length=bs.length->(∀(i:Nat) a b,as[i]? =some a->bs[i]? =some b->R a b)->L2 R as bs
 | [],[],_,_=> .nil
 |a::as,b::bs,hl,h=> .cons (h 0 a b rfl rfl) (L2.ofGet (by simpa using hl) λi x y h1 h2=>h (i+1) x y (by simpa using h1) (by simpa using h2))
 | [],_::_,hl,_=>by simp at hl
 |_::_,[],hl,_=>by simp at hl
def og (fr:Bool):List Nat->List Own->List (Nat×Option Own)->List (Nat×Option Own)
 |q::qs,c::cs,ow=>(q,some (c.reg fr))::og fr qs cs ow
 |_,_,ow=>ow
def oP (fr:Bool):Nat->List Own->List (Nat×Option Own)->List (Nat×Option Own)
 |n,c::cs,ow=>(n,some (c.reg fr))::oP fr (n+1) cs ow
 |_,[],ow=>ow
def ng:Nat->List Nat->List Value->List (Nat×SV)->List (Nat×SV)
 |i,g::gs,u::us,sl=>(g,.eq u i)::ng (i+1) gs us sl
 |_,_,_,sl=>sl
theorem lk_setOw {fr:Bool}{ow:List (Nat×Option Own)}: ∀(qs:List Nat) (cs:List Own) (i:Nat) (c:Own),qs.length=cs.length->(lk (og fr qs cs ow) i).join=some c->(∃(j:Nat) (c0:Own),qs[j]? =some i/\cs[j]? =some c0/\c=c0.reg fr)∨(i∉qs/\(lk ow i).join=some c)
 | [],[],i,c,_,h=> .inr ⟨by simp,h⟩
 |q::qs,c0::cs,i,c,hl,h=>by
  simp only[og,ai]at h;by_cases e:q=i
  ·rw[D4 e]at h;exact .inl ⟨0,c0,by simp[e],by simp,(D3 h).symm⟩
  ·rw[D2 e]at h;rcases lk_setOw qs cs i c (by simpa using hl) h with ⟨j,c1,h1,h2,h3⟩|⟨h1,h2⟩;·exact .inl ⟨j+1,c1,by simpa using h1,by simpa using h2,h3⟩
   ·exact .inr ⟨by simp[h1,Ne.symm e],h2⟩
 | [],_::_,_,_,hl,_=>by simp at hl
 |_::_,[],_,_,hl,_=>by simp at hl
theorem lk_newOw {fr:Bool}{ow:List (Nat×Option Own)}: ∀(cs:List Own) (n i:Nat) (c:Own),(lk (oP fr n cs ow) i).join=some c->(∃(j:Nat) (c0:Own),i=n+j/\cs[j]? =some c0/\c=c0.reg fr)∨(¬(n<=i/\i<n+cs.length)/\(lk ow i).join=some c)
 | [],n,i,c,h=> .inr ⟨by simp,h⟩
 |c0::cs,n,i,c,h=>by
  simp only[oP,ai]at h;by_cases e:n=i
  ·rw[D4 e]at h;exact .inl ⟨0,c0,by omega,by simp,(D3 h).symm⟩
  ·rw[D2 e]at h;rcases lk_newOw cs (n+1) i c h with ⟨j,c1,h1,h2,h3⟩|⟨h1,h2⟩;·exact .inl ⟨j+1,c1,by omega,by simpa using h2,h3⟩
   ·exact .inr ⟨by simp only[Dp];omega,h2⟩
theorem lk_eqsOn {sl:List (Nat×SV)}: ∀(gs:List Nat) (us:List Value) (i s:Nat) (sv:SV),lk (ng i gs us sl) s=some sv->(∃(j:Nat) (u:Value),s∈gs/\us[j]? =some u/\sv= .eq u (i+j))∨lk sl s=some sv
 | [],us,i,s,sv,h=> .inr h
 |g::gs,[],i,s,sv,h=> .inr h
 |g::gs,u::us,i,s,sv,h=>by
  simp only[ng,ai]at h;by_cases e:g=s
  ·rw[D4 e]at h;exact .inl ⟨0,u,by simp[e],by simp,(D3 h).symm⟩
  ·rw[D2 e]at h;rcases lk_eqsOn gs us (i+1) s sv h with ⟨j,v,h1,h2,h3⟩|h1;·exact .inl ⟨j+1,v,.tail _ h1,by simpa using h2,by rw[h3];congr 1;omega⟩
   ·exact .inr h1
def x6 (E:EnvF):List Nat->List Value->List Own->List Nat->Prop
 |g::gs,u::us,c::cs,q::qs=>E.slot g=some (.eq u q)/\E.own q=some c/\x6 E gs us cs qs
 | [],[],[],[]=>True
 |_,_,_,_=>False
theorem pe {E:EnvF}: ∀{gs:List Nat} {us:List Value} {cs:List Own} {qs:List Nat},x6 E gs us cs qs->(us.length=cs.length/\qs.length=cs.length)/\(∀(i:Nat) (q:Nat),qs[i]? =some q->∃u c g,us[i]? =some u/\cs[i]? =some c/\E.own q=some c/\E.slot g=some (.eq u q))
 |g::gs,u::us,c::cs,q::qs,h=>by
  obtain⟨h1,h2,h3⟩:=h;obtain⟨⟨h4,h5⟩,h6⟩:=pe h3;refine⟨⟨by simp[h4],by simp[h5]⟩,λi p hp=> ?_⟩;cases i with
  |zero=>simp at hp;subst hp;exact⟨u,c,g,rfl,rfl,h2,h1⟩
  |succ i=>simp at hp;simpa using h6 i p hp
 | [],[],[],[],_=>⟨⟨rfl,rfl⟩,λi q hq=>by simp at hq⟩
section
variable {K:Ctx}{V:EnvF}{U:Nat->Prop}{φ:Nat->Value}{a:Act}{w:World}
theorem Bd (h:RelW K V U φ a w){qs:List Nat}(hqs: ∀q∈qs,∃c,V.own q=some c){x:Operand}{sv:SV}{p:PV}(hx:V.get x=some sv)(hp:V.pv sv=some p)(hn:(qs.all λq=>nr q (some sv))=true):Rep w (λb=> ∀q∈qs,¬VB (φ q) b) (a.eval x) p:=by
 obtain⟨hr,_⟩:=ae h hx;have hZ: ∀f b,Zf K V φ f b->∀q∈qs,¬VB (φ q) b:=λf b hb q hq=>(by obtain⟨c,hc⟩:=hqs q hq;exact hb.1.2 q c hc);cases sv with
 |val f p'=>simp only[EnvF.pv,D6]at hp;subst hp;exact Rep.mono (λb hb _=>⟨hZ f b hb,rfl⟩) hr
 |fix u p'=>simp only[EnvF.pv,D6]at hp;subst hp;exact Rep.mono (λb hb _=>⟨hZ false b hb,rfl⟩) hr.2
 |nilsl=>simp only[EnvF.pv,D6]at hp;subst hp;simp only[aU,ay]at hr;rw[hr];exact .nilsl
 |ref o=>
  have hne: ∀q∈qs,o≠q:=λq hq=>(by simpa[nr]using DI.1 hn q hq);simp only[EnvF.pv]at hp;split at hp
  ·rename_i e sz fr rows ho;obtain rfl:=D3 hp;simp only[aU,ay]at hr;rw[hr];obtain⟨xs,hown,hl,h1,h2⟩:=h.own o _ ho;have hl':L2 (Rep w (λb=> ∀q∈qs,¬VB (φ q) b)) xs rows.flatten:=Rep.monoL (λb hb _=>⟨hZ fr b hb,rfl⟩) hl;have hlt:=hown.lt;have hcell:=λg hg=>hown.cells (g:=g) hg;rcases hown.2 with ⟨hv,hn⟩|⟨g,cap,cur,hv,_,hg,hnc,hcm,_⟩
   ·rw[hv];have:rows=[]:=DP hn;subst this;exact .nilsl
   ·have hbl:VB (φ o) g:=(by rw[hv];exact .inl Y);rw[hv]at hcell hlt⊢;refine .sl g 0 cap sz rows xs (λq hq e=> ?_) (hlt g Y).2 h1 h2 (λj v hj=> ?_) hnc hcm hl'
    ·obtain⟨c,hc⟩:=hqs q hq;exact hne q hq (h.dis o q _ c g ho hc hbl e)
    ·have:=hcell g Y j v hj;rw[bD]at this;exact bY hg this
  ·cases hp
 |_=>simp[EnvF.pv]at hp
theorem AX (h:RelW K V U φ a w){qs:List Nat}(hqs: ∀q∈qs,∃c,V.own q=some c): ∀(xs:List Operand) (ps:List PV),bW V false xs=some ps->(xs.all λy=>qs.all λq=>nr q (V.get y))=true->L2 (Rep w (λb=> ∀q∈qs,¬VB (φ q) b)) (xs.map a.eval) ps
 | [],ps,hp,_=>by simp only[bW,D6]at hp;subst hp;exact .nil
 |x::rest,ps,hp,hn=>by
  simp only[Fb,DJ]at hn;simp only[bW]at hp;split at hp
  ·rename_i p l hx hl;obtain rfl:=D3 hp;refine .cons ?_ (AX h hqs rest l hl hn.2);simp only[pH]at hx;split at hx
   ·rename_i sv hsv;rw[hsv]at hn;exact Bd h hqs hsv hx hn.1
   ·cases hx
  ·cases hp
theorem tN {w:World}{Z:Nat->Prop}{u:Value}{c c':Own}(h:ar w (λ_=>Z) u c)(e:c.reg true=c'.reg true):ar w (λ_=>Z) u c':=by
 have h1:=gN (Zb:=λ_=>Z) (f:=true) h λ_ hb=>hb;rw[e]at h1;have h2:=gN (Zb:=λ_=>Z) (f:=c'.fr) h1 λ_ hb=>hb;cases c'<;>exact h2
end
theorem J.co {K:Ctx}{ops:Array Oper}{o:Oper}{rest:List Oper}{sl:List (Nat×SV)}{ow:List (Nat×Option Own)}{nx:Nat}{R:St->Prop}{d:Nat}{x:Operand}{args:Array Operand}{tys:Array TypeId}{f:FuncId}{al fx:Bool}{first caps ps ps':List PV}{us:List Value}{cs cs2 cs':List Own}{news:List Value->List Own}{res:List Value->List PV}{qs:List Nat}(fr:Bool)(gs hs:List Nat)
  (ho:o.op= .call { callee:= .value x,args:=args,argTypes:=tys }) (hg:wants ops (St.mk sl ow nx).f o=some true) (hd:o.dst=some d) (hlt:K.can d=true) (hx:(St.mk sl ow nx).f.get x=some (.val fx (.fn (.func f) first caps)))
  (hhs:true=true) (hspec:SpecO K.P f al us cs ps' cs' news res) (hq:x6 (St.mk sl ow nx).f gs us cs2 qs) (hdup:dup qs=false) (hcs:cs2.map (Own.reg true)=cs.map (Own.reg true)) (hfr:(cs2.all λc=> !fr||c.fr)=true)
  (hps:bW (St.mk sl ow nx).f al args.toList=some ps) (hne:(al||args.toList.all λy=>qs.all λq=>nr q ((St.mk sl ow nx).f.get y))=true) (hpe:first++ps++caps=ps') (hal:(!al|| !fr)=true)
  (k: ∀ns:List Value,ns.length=(news ns).length->J K ops false rest ⟨(d,RV.one fr nx ((res ns).map .val))::ng nx hs ns sl,oP fr nx (news ns) (og fr qs cs' ow),nx+(news ns).length⟩ R):J K ops false (o::rest) ⟨sl,ow,nx⟩ R:=by
 subst hpe;refine⟨TO.mk λa w Q hr hQ=> ?_⟩;obtain⟨φ,hφ⟩:=hr;unfold wpList;rw[D4 (aE hφ hg)];refine .inl ?_;obtain⟨hrf,_⟩:=ae hφ hx;generalize hvx:a.eval x=vx at hrf;cases hrf with
 |fn _ vs vcs _ _ hf hc=>
 obtain⟨fn,hfn,hbody,hname⟩:=hspec.isFn;have hrun:(execOp a.eval o).run K.P w= .ok (.enter f (vs++args.toList.map a.eval++vcs).toArray) w:=by
  have hb:fn.body.isNone=false:=(by cases hfb:fn.body<;>simp_all);simp only[execOp,ho,resolve,hvx,Deferred.ofValue,DK,Dr,DA,invoke,callFunc,run_program,hfn,hname,hb,EF,if_false];congr 2;apply Array.ext';simp
 unfold Oper.wp;rw[hrun];obtain⟨⟨hl1,hl2⟩,hat⟩:=pe hq;have hcl:cs2.length=cs.length:=(by have:=congrArg List.length hcs;simpa using this);have hval: ∀(i q:Nat) (u:Value),qs[i]? =some q->us[i]? =some u->φ q=u:=by
  intro i q u h1 h2;obtain⟨u',c,g,h3,_,_,h5⟩:=hat i q h1;rw[h2]at h3;cases h3;obtain⟨_,_,e⟩:=hφ.slot g _ h5;exact e
 have hinj:=fz qs hdup;have hownq: ∀q∈qs,∃c,(St.mk sl ow nx).f.own q=some c:=λq hq=>by
  obtain⟨i,hi⟩:=DH hq;obtain⟨_,c,_,_,_,h,_⟩:=hat i q hi;exact⟨c,h⟩
 have hoff: ∀b,(∀q∈qs,¬VB (φ q) b)->Off us b:=by
  intro b hb u hu;obtain⟨i,hi⟩:=DH hu;have hil:i<qs.length:=(by have:=(D5.1 hi).1;omega);rw[<-hval i _ u (D1 hil) hi];exact hb _ (D8 hil)
 have hoff2: ∀b,Off us b->∀q∈qs,¬VB (φ q) b:=by
  intro b hb q hqm;obtain⟨i,hi⟩:=DH hqm;obtain⟨u,c,g,h3,_⟩:=hat i q hi;rw[hval i q u hi h3];exact hb u (D7 h3)
 have hzoff: ∀f b,Zf K (St.mk sl ow nx).f φ f b->Off us b:=λf b hb=>hoff b λq hqm=>(by obtain⟨c,hc⟩:=hownq q hqm;exact hb.1.2 q c hc);have hown1:L2 (ar w λ_=>Zf K (St.mk sl ow nx).f φ fr) us cs:=by
  have key: ∀(i:Nat) u c,us[i]? =some u->cs[i]? =some c->ar w (λ_=>Zf K (St.mk sl ow nx).f φ fr) u c:=by
   intro i u c h1 h2;have hil:i<qs.length:=(by have:=(D5.1 h1).1;omega);obtain⟨u',c2,g,h3,h4,h5,h6⟩:=hat i _ (D1 hil);rw[h1]at h3;cases h3;have e:=hval i _ u (D1 hil) h1;have ho2:=hφ.own _ _ h5;rw[e]at ho2;have hc2:c2.reg true=c.reg true:=by
    have:=congrArg (λl=>l[i]?) hcs;simpa[h4,h2]using this
   have hfl:(!fr||c2.fr)=true:=DI.1 hfr c2 (D7 h4);exact tN (oI ho2 λb hb=>⟨hb.1,λe=>hb.2 (by rw[e]at hfl;simpa using hfl)⟩) hc2
  exact L2.ofGet (by omega) key
 have hap:gF us:=by
  intro i j u v g h1 h2 hg1 hg2;have hil:i<qs.length:=(by have:=(D5.1 h1).1;omega);have hjl:j<qs.length:=(by have:=(D5.1 h2).1;omega);have h3:=D1 hil;have h4:=D1 hjl;obtain⟨_,c,_,_,_,h5,_⟩:=hat i _ h3;obtain⟨_,c',_,_,_,h6,_⟩:=hat j _ h4;have e1:=hval i _ u h3 h1;have e2:=hval j _ v h4 h2;rw[<-e1]at hg1;rw[<-e2]at hg2;have:=hφ.dis _ _ c c' g h5 h6 hg1 hg2;exact hinj i j _ h3 (by rw[this];exact h4)
 have hargs:L2 (Rep w λb=>Off us b/\(al=true->Zf K (St.mk sl ow nx).f φ fr b)) (vs++args.toList.map a.eval++vcs) (first++ps++caps):=by
  have hz0: ∀f b,Zf K (St.mk sl ow nx).f φ f b->Off us b/\(al=true->Zf K (St.mk sl ow nx).f φ fr b):=λf b hb=>⟨hzoff f b hb,λe=>by
   rw[e]at hal;have:fr=false:=(by simpa using hal);subst this;exact⟨hb.1,λe=>by cases e⟩⟩
  refine((Rep.monoL (λb hb _=>⟨hz0 _ b hb,rfl⟩) hf).append ?_).append (Rep.monoL (λb hb _=>⟨hz0 _ b hb,rfl⟩) hc);cases al with
  |true=>
   refine Rep.monoL (λb hb _=>⟨hz0 false b ⟨hb Y,λe=>by cases e⟩,rfl⟩) (iJ hφ args.toList ps hps)
  |false=>
   exact Rep.monoL (λb hb _=>⟨⟨hoff b hb,λe=>by cases e⟩,rfl⟩) (AX hφ hownq args.toList ps hps (by simpa using hne))
 refine(hspec.out w (Zf K (St.mk sl ow nx).f φ fr) _ hown1 hap (λb hb=>hzoff fr b hb) hargs).mono ?_;rintro _ w' ⟨rs,ns,rfl,hos,htape,hout,hsize,hblk,hus,hns,hfresh,hapn,hres⟩;have hnl:=hns.length;have hul:=hus.length;let φ':Nat->Value:=bI φ nx ns;have hφ': ∀i,i<nx->φ' i=φ i:=λi hi=>(by simp only[φ',bI];rw[D2 (by omega)]);have hφn: ∀(j:Nat) u,ns[j]? =some u->φ' (nx+j)=u:=by
  intro j u hu;have hj:=(D5.1 hu).1;simp only[φ',bI];rw[D4 (by omega),D0,ET,hu];rfl
 let E':St:=⟨sl,oP fr nx (news ns) (og fr qs cs' ow),nx+(news ns).length⟩;have hcl':qs.length=cs'.length:=(by omega);have hcase: ∀i c,E'.f.own i=some c->(∃(j:Nat) (c0:Own),i=nx+j/\(news ns)[j]? =some c0/\c=c0.reg fr)∨(∃(j:Nat) (c0:Own),qs[j]? =some i/\cs'[j]? =some c0/\c=c0.reg fr)∨(i∉qs/\¬(nx<=i/\i<nx+(news ns).length)/\(St.mk sl ow nx).f.own i=some c):=by
  intro i c h;rcases lk_newOw (news ns) nx i c h with h1|⟨h1,h2⟩;·exact .inl h1
  ·rcases lk_setOw qs cs' i c hcl' h2 with h3|⟨h3,h4⟩;·exact .inr (.inl h3)
   ·exact .inr (.inr ⟨h3,h1,h4⟩)
 have hqlt: ∀q∈qs,q<nx:=λq hqm=>(by obtain⟨c,hc⟩:=hownq q hqm;exact hφ.inU q c hc);have hC: ∀i,i∉qs->¬(nx<=i/\i<nx+(news ns).length)->¬(i∈qs∨(nx<=i/\i<nx+(news ns).length)):=λi h1 h2 h3=>h3.elim h1 h2;have hZp: ∀b,(Zf K (St.mk sl ow nx).f φ fr b∨w.heap.size<=b)/\Off (us++ns) b->Zf K E'.f φ' fr b:=by
  rintro b ⟨hb1,hb2⟩;refine⟨⟨?_,λi c hi hv=> ?_⟩,λe=> ?_⟩
  ·rcases hb1 with hb1|hb1;·exact hb1.1.1
   ·exact .inl (Du hφ.kept.size hb1)
  ·rcases hcase i c hi with ⟨j,c0,rfl,h1,_⟩|⟨j,c0,h1,h2,_⟩|⟨h1,h2,h3⟩
   ·have hj:j<ns.length:=(by have:=(D5.1 h1).1;omega);have hu:=D1 hj;rw[hφn j _ hu]at hv;exact hb2 _ (Dq _ (D8 hj)) hv
   ·have hj:j<us.length:=(by have:=(D5.1 h1).1;omega);have hu:=D1 hj;rw[hφ' i (hqlt i (D7 h1)),hval j i _ h1 hu]at hv;exact hb2 _ (Do _ (D8 hj)) hv
   ·rw[hφ' i (hφ.inU i c h3)]at hv;rcases hb1 with hb1|hb1;·exact hb1.1.2 i c h3 hv
    ·have:=(hφ.own i c h3).lt hv;omega
  ·rcases hb1 with hb1|hb1;·exact hb1.2 e
   ·exact K.hF _ (Du hφ.kept.size hb1)
 have hrel:RelW K E'.f (· <nx+(news ns).length) φ' a w':=by
  refine hφ.step (λb=> ∃q∈qs,VB (φ q) b) (λi=>i∈qs∨(nx<=i/\i<nx+(news ns).length)) Y (λi (hi:i<nx)=>by show i<nx+(news ns).length;omega) (λi hi=>hφ' i hi) hos htape hout hsize ?_ ?_ ?_ ?_ ?_
  ·intro b hb hne;exact hblk b hb (hoff b λq hqm e=>hne ⟨q,hqm,e⟩)
  ·rintro b _ ⟨q,hqm,e⟩;obtain⟨c,hc⟩:=hownq q hqm;exact⟨q,c,hc,e,.inl hqm⟩
  ·intro i c hi hne;rcases hcase i c hi with ⟨j,c0,rfl,h1,_⟩|⟨j,c0,h1,h2,_⟩|⟨h1,h2,h3⟩
   ·have:=(D5.1 h1).1;exact DU (.inr ⟨by omega,by omega⟩) hne
   ·exact DU (.inl (D7 h1)) hne
   ·exact h3
  ·intro i c hi hie;rcases hcase i c hi with ⟨j,c0,rfl,h1,rfl⟩|⟨j,c0,h1,h2,rfl⟩|⟨h1,h2,h3⟩
   ·have hj:=(D5.1 h1).1;obtain⟨u,hu,hr⟩:=hns.get h1;rw[hφn j u hu];exact⟨by show nx+j<nx+(news ns).length;omega,gN hr hZp,λg hg=> .inl (hfresh u g (D7 hu) hg)⟩
   ·obtain⟨u,hu,hr⟩:=hus.get h2;have hlt2:=hqlt i (D7 h1);have e:=hval j i u h1 hu;rw[hφ' i hlt2];refine⟨by show i<nx+(news ns).length;omega,by rw[e];exact gN hr hZp,λg hg=> ?_⟩;obtain⟨c1,hc1⟩:=hownq i (D7 h1);exact .inr ⟨i,c1,hc1,hg,.inl (D7 h1)⟩
   ·exact DU hie (hC i h1 h2)
  ·intro i i' c c' g hi hi' hie hie' hv hv';have key: ∀i c,E'.f.own i=some c->(i∈qs∨(nx<=i/\i<nx+(news ns).length))->VB (φ' i) g->(i∈qs/\g<w.heap.size/\VB (φ i) g)∨(∃(j:Nat) (u:Value),i=nx+j/\ns[j]? =some u/\VB u g/\w.heap.size<=g):=by
    intro i c hi hie hv;rcases hie with hm|hm
    ·have hlt2:=hqlt i hm;rw[hφ' i hlt2]at hv;obtain⟨c1,hc1⟩:=hownq i hm;exact .inl ⟨hm,(hφ.own i c1 hc1).lt hv,hv⟩
    ·have hj:i-nx<ns.length:=(by omega);have hu:=D1 hj;have e:φ' i=ns[i-nx]:=by
      have:=hφn (i-nx) _ hu;rwa[show nx+(i-nx)=i by omega]at this
     rw[e]at hv;exact .inr ⟨i-nx,_,by omega,hu,hv,hfresh _ g (D8 hj) hv⟩
   rcases key i c hi hie hv with ⟨h1,h2,h3⟩|⟨j,u,rfl,hu,hug,hge⟩
   ·rcases key i' c' hi' hie' hv' with ⟨h4,h5,h6⟩|⟨j',u',rfl,hu',hug',hge'⟩
    ·obtain⟨c1,hc1⟩:=hownq i h1;obtain⟨c2,hc2⟩:=hownq i' h4;exact hφ.dis i i' c1 c2 g hc1 hc2 h3 h6
    ·omega
   ·rcases key i' c' hi' hie' hv' with ⟨h4,h5,h6⟩|⟨j',u',rfl,hu',hug',hge'⟩;·omega
    ·rw[hapn j j' u u' g hu hu' hug hug']
 have heach:L2 (RV1 w' (Zf K E'.f φ' fr)) rs ((res ns).map .val):=by
  have h2:=Rep.monoL (w':=w') (λb hb _=>⟨hZp b hb,rfl⟩) hres;clear k hQ hspec;generalize res ns=rl at*;clear hres
  induction h2 with
  |nil=>exact .nil
  |cons h1 _ ih=>exact .cons h1 ih
 have hdst: ∀(v:Value) (sv:SV),aU w' (Zf K E'.f φ') φ' v sv->sv.inU (· <nx+(news ns).length)->∃a2,a2=a.put o.dst v/\Rel K ⟨(d,sv)::ng nx hs ns sl,oP fr nx (news ns) (og fr qs cs' ow),nx+(news ns).length⟩ a2 w':=by
  intro v sv h1 h2;refine⟨_,rfl,φ',?_⟩;have hput:RelW K (St.mk ((d,sv)::sl) (oP fr nx (news ns) (og fr qs cs' ow)) (nx+(news ns).length)).f (· <nx+(news ns).length) φ' (a.put o.dst v) w':=by
   rw[hd];exact hrel.put hlt h1 h2 Y slot_put
  have hsz:=hput.sz;refine⟨hput.df,hput.sz,hput.old,hput.kept,hput.own,hput.mine,hput.inU,hput.dis,?_,?_⟩
  ·intro s sv' hs';rcases slot_put s sv' hs' with ⟨rfl,rfl⟩|⟨hne,h3⟩;·exact hput.slot s sv' (by show lk ((s,sv')::sl) s=_;rw[ai,D4 Y])
   ·rcases lk_eqsOn hs ns nx s sv' h3 with ⟨j,u,h4,h5,rfl⟩|h4
    ·refine⟨_,rfl,?_⟩;exact hφn j u h5
    ·exact hput.slot s sv' (by show lk ((d,sv)::sl) s=_;rw[ai,D2 (Ne.symm hne)];exact h4)
  ·intro s sv' hs';rcases slot_put s sv' hs' with ⟨rfl,rfl⟩|⟨hne,h3⟩;·exact h2
   ·rcases lk_eqsOn hs ns nx s sv' h3 with ⟨j,u,h4,h5,rfl⟩|h4
    ·have:=(D5.1 h5).1;show nx+j<nx+(news ns).length;omega
    ·exact hput.sin s sv' (by show lk ((d,sv)::sl) s=_;rw[ai,D2 (Ne.symm hne)];exact h4)
 obtain⟨h1,h2⟩:=dw (U:=(· <nx+(news ns).length)) (Z:=Zf K E'.f φ') (φ:=φ') ((res ns).map .val) rs nx heach (λi v hi=>by rw[fD]at hi;simp at hi) (λi hi=>by rw[fE]at hi;simp at hi);obtain⟨h3,h4⟩:=eM h1 h2;obtain⟨a2,rfl,hr2⟩:=hdst _ _ h3 h4;exact((k ns hnl).out).out _ _ Q hr2 hQ
section
variable {K:Ctx}{sl:List (Nat×SV)}{ow:List (Nat×Option Own)}{nx:Nat}{a:Act}{w:World}
theorem RelW.frz {φ:Nat->Value}(hφ:RelW K (St.mk sl ow nx).f (· <nx) φ a w)(hM: ∀b,¬K.M b){o:Nat}{e:TypeId}{sz:Nat}{fr:Bool}{rows:List (List PV)}(ho:(St.mk sl ow nx).f.own o=some (.sl e sz fr rows)):
  RelW K (St.mk sl ((o,none)::ow) nx).f (· <nx) φ a w/\Rep w (Zf K (St.mk sl ((o,none)::ow) nx).f φ fr) (φ o) (.sl rows):=by
 have hown': ∀q c,(St.mk sl ((o,none)::ow) nx).f.own q=some c->q≠o/\(St.mk sl ow nx).f.own q=some c:=by
  intro q c hq;simp only[St.f,ai]at hq;by_cases e:o=q;·rw[D4 e]at hq;cases hq
  ·rw[D2 e]at hq;exact⟨Ne.symm e,hq⟩
 have hZ: ∀f b,Zf K (St.mk sl ow nx).f φ f b->Zf K (St.mk sl ((o,none)::ow) nx).f φ f b:=
  λf b hb=>⟨⟨hb.1.1,λq c hq=>hb.1.2 q c (hown' q c hq).2⟩,hb.2⟩
 refine⟨⟨hφ.df,hφ.sz,hφ.old,hφ.kept,?_,?_,?_,?_,?_,?_⟩,?_⟩
 ·intro q c hq;exact(hφ.own q c (hown' q c hq).2).mono (λ_ _=>rfl) λf b hb _=>⟨hZ f b hb,rfl⟩
 ·intro q c g hq;exact hφ.mine q c g (hown' q c hq).2
 ·intro q c hq;exact hφ.inU q c (hown' q c hq).2
 ·intro q q' c c' g hq hq';exact hφ.dis q q' c c' g (hown' q c hq).2 (hown' q' c' hq').2
 ·intro t sv h;obtain⟨v,hv,hr⟩:=hφ.slot t sv h;exact⟨v,hv,hr.mono (hφ.sin t sv h) (λf b hb _=>⟨hZ f b hb,rfl⟩) (λ_ _=>rfl)⟩
 ·exact hφ.sin
 ·obtain⟨xs,hwn,hl,h1,h2⟩:=hφ.own o _ ho;have hl':L2 (Rep w (Zf K (St.mk sl ((o,none)::ow) nx).f φ fr)) xs rows.flatten:=Rep.monoL (λb hb _=>⟨hZ fr b hb,rfl⟩) hl;have hcell:=λg hg=>hwn.cells (g:=g) hg;have hlt:=hwn.lt;rcases hwn.2 with ⟨hv0,hn⟩|⟨g,cap,cur,hv0,_,hgc,hnc,hcm,_⟩
  ·rw[hv0];have:rows=[]:=DP hn;subst this;exact .nilsl
  ·have hm:=hφ.mine o _ g ho (by rw[hv0];exact .inl Y);have hge:K.w0.heap.size<=g:=hm.resolve_right (hM g);rw[hv0]at hcell hlt⊢;refine .sl g 0 cap sz rows xs ⟨⟨.inl hge,λq c hq hvq=> ?_⟩,λ_=>K.hF _ hge⟩ (hlt g Y).2 h1 h2 (λj v hj=> ?_) hnc hcm hl'
   ·obtain⟨hne,hq'⟩:=hown' q c hq;exact hne (hφ.dis q o c _ g hq' ho hvq (by rw[hv0];exact .inl Y))
   ·have:=hcell g Y j v hj;rw[bD]at this;exact bY hgc this
theorem RelW.reown {φ:Nat->Value}(hφ:RelW K (St.mk sl ow nx).f (· <nx) φ a w){o:Nat}{c c2:Own}(ho:(St.mk sl ow nx).f.own o=some c)(h2:ar w (Zf K (St.mk sl ow nx).f φ) (φ o) c2):RelW K (St.mk sl ((o,some c2)::ow) nx).f (· <nx) φ a w:=by
 have hown': ∀q c',(St.mk sl ((o,some c2)::ow) nx).f.own q=some c'->(q=o/\c'=c2)∨(St.mk sl ow nx).f.own q=some c':=by
  intro q c' hq;simp only[St.f,ai]at hq;by_cases e:o=q;·rw[D4 e]at hq;exact .inl ⟨e.symm,(D3 hq).symm⟩
  ·rw[D2 e]at hq;exact .inr hq
 have hex: ∀q c',(St.mk sl ((o,some c2)::ow) nx).f.own q=some c'->∃c1,(St.mk sl ow nx).f.own q=some c1:=by
  intro q c' hq;rcases hown' q c' hq with ⟨rfl,_⟩|h;·exact⟨c,ho⟩
  ·exact⟨c',h⟩
 have hZ: ∀f b,Zf K (St.mk sl ow nx).f φ f b->Zf K (St.mk sl ((o,some c2)::ow) nx).f φ f b:=
  λf b hb=>⟨⟨hb.1.1,λq c hq=>by obtain⟨c1,h⟩:=hex q c hq;exact hb.1.2 q c1 h⟩,hb.2⟩
 refine⟨hφ.df,hφ.sz,hφ.old,hφ.kept,?_,?_,?_,?_,?_,hφ.sin⟩
 ·intro q c' hq;rcases hown' q c' hq with ⟨rfl,rfl⟩|h;·exact h2.mono (λ_ _=>rfl) λf b hb _=>⟨hZ f b hb,rfl⟩
  ·exact(hφ.own q c' h).mono (λ_ _=>rfl) λf b hb _=>⟨hZ f b hb,rfl⟩
 ·intro q c' g hq;obtain⟨c1,h⟩:=hex q c' hq;exact hφ.mine q c1 g h
 ·intro q c' hq;obtain⟨c1,h⟩:=hex q c' hq;exact hφ.inU q c1 h
 ·intro q q' c' c'' g hq hq';obtain⟨c1,h⟩:=hex q c' hq;obtain⟨c1',h'⟩:=hex q' c'' hq';exact hφ.dis q q' c1 c1' g h h'
 ·intro t sv h;obtain⟨v,hv,hr⟩:=hφ.slot t sv h;exact⟨v,hv,hr.mono (hφ.sin t sv h) (λf b hb _=>⟨hZ f b hb,rfl⟩) (λ_ _=>rfl)⟩
end
theorem c7 {w:World}{Z:Nat->Prop}{v:Value}{k:IntKind}{n:Int}(h:Rep w Z v (.int k n)):v= .int k n:=by cases h;rfl
section
variable {K:Ctx}{sl:List (Nat×SV)}{ow:List (Nat×Option Own)}{nx:Nat}{a:Act}{w:World}
theorem ri {l:List (Value×List (List PV))}{g:Nat}:VB (.tuple (l.map (·.1)).toArray) g↔∃p∈l,ax p.1=some g:=by
 constructor
 ·rintro(h|⟨vs,hv,u,hu,h⟩);·simp[ax]at h
  ·have hv:l.map (·.1)=vs:=congrArg Array.toList (Value.tuple.inj hv);subst hv;obtain⟨p,hp,rfl⟩:=DF.1 hu;exact⟨p,hp,h⟩
 ·rintro⟨p,hp,h⟩;exact .inr ⟨_,rfl,p.1,DF.2 ⟨p,hp,rfl⟩,h⟩
theorem dy.vb {w:World}{Z:Nat->Prop}{v:Value}{e:TypeId}{sz:Nat}{rows:List (List PV)}(h:dy w Z v e sz rows){g:Nat}:VB v g↔ax v=some g:=by
 obtain⟨xs,ho,_⟩:=h;exact rB ho
theorem dy.nil (w:World)(Z:Nat->Prop)(e:TypeId)(sz:Nat):dy w Z (.slice none 0 0) e sz []:=⟨[],⟨by simp,.inl ⟨rfl,rfl⟩⟩,.nil,by simp,by simp⟩
theorem Rel.fam0 (n:Nat)(e:TypeId)(sz:Nat)(h:Rel K ⟨sl,ow,nx⟩ a w):Rel K ⟨sl,(nx,some (.fam e sz true (List.replicate n (.slice none 0 0,[]))))::ow,nx+1⟩ a w:=by
 obtain⟨φ,hφ⟩:=h;have hvb: ∀g,¬VB (.tuple (((List.replicate n ((.slice none 0 0:Value),([]:List (List PV)))).map (·.1))).toArray) g:=by
  intro g hg;obtain⟨p,hp,h⟩:=ri.1 hg;rw[Fs hp]at h;simp[ax]at h
 have hown: ∀q c,(St.mk sl ((nx,some (.fam e sz true (List.replicate n (.slice none 0 0,[]))))::ow) (nx+1)).f.own q=some c->(q=nx/\c= .fam e sz true (List.replicate n (.slice none 0 0,[])))∨(q≠nx/\(St.mk sl ow nx).f.own q=some c):=by
  intro q c hq;simp only[St.f,ai]at hq;by_cases e1:nx=q;·rw[D4 e1]at hq;exact .inl ⟨e1.symm,(D3 hq).symm⟩
  ·rw[D2 e1]at hq;exact .inr ⟨Ne.symm e1,hq⟩
 refine⟨λo=>if o=nx then .tuple ((List.replicate n ((.slice none 0 0:Value),([]:List (List PV)))).map (·.1)).toArray else φ o,hφ.step (λ_=>False) (λo=>o=nx) Y (λo ho=>G6 ho) (λo ho=>D2 (Gp ho)) Y Y Y (DL _) (λ_ _ _=>rfl) (λ_ _ hd=>hd.elim) ?_ ?_ ?_⟩
 ·intro o c ho hne;rcases hown o c ho with ⟨rfl,_⟩|⟨_,h⟩;·exact DU Y hne
  ·exact h
 ·rintro o c ho rfl;rcases hown _ c ho with ⟨_,rfl⟩|⟨h,_⟩
  ·refine⟨Eh _,⟨by simp,λp hp=> ?_,λi j p q g hi hj hg hg'=> ?_⟩,λg hg=> ?_⟩;·rw[Fs hp];exact dy.nil _ _ _ _
   ·rw[Fs (D7 hi)]at hg;simp[ax]at hg
   ·rw[D4 Y]at hg;exact DU hg (hvb g)
  ·exact DU Y h
 ·rintro o o' c c' g ho ho' rfl rfl _ _;rfl
theorem Rel.nameO (g:Nat){o:Nat}{c:Own}(hg:true=true)(ho:(St.mk sl ow nx).f.own o=some c)(h:Rel K ⟨sl,ow,nx⟩ a w): ∃u,Rel K ⟨(g,.eq u o)::sl,ow,nx⟩ a w:=by
 obtain⟨φ,hφ⟩:=h;obtain⟨v,hv⟩:=eI hφ hg;exact⟨φ o,φ,hφ.reslot (s:=g) (sv:= .eq (φ o) o) hv Y (hφ.inU o c ho) Y slot_put⟩
theorem Rel.split (g k:Nat){q:Nat}{e:TypeId}{sz:Nat}{fr:Bool}{l:List (Value×List (List PV))}{u:Value}{rows:List (List PV)}(hg:true=true)(ho:(St.mk sl ow nx).f.own q=some (.fam e sz fr l))(hk:l[k]? =some (u,rows))(h:Rel K ⟨sl,ow,nx⟩ a w):
  Rel K ⟨(g,.eq u nx)::sl,(nx+1,some (.fam e sz fr (l.set k (.slice none 0 0,[]))))::(nx,some (.sl e sz fr rows))::(q,none)::ow,nx+2⟩ a w:=by
 obtain⟨φ,hφ⟩:=h;obtain⟨hv,hl,hdis⟩:=hφ.own q _ ho;have hqn:q<nx:=hφ.inU q _ ho;have hmem:=D7 hk;have hvbq: ∀x,VB (φ q) x↔∃p∈l,ax p.1=some x:=λx=>(by rw[hv];exact ri);have hset: ∀p,p∈l.set k ((.slice none 0 0:Value),([]:List (List PV)))->p=(.slice none 0 0,[])∨∃i,i≠k/\l[i]? =some p:=by
  intro p hp;obtain⟨i,hi⟩:=DH hp;rw[EK]at hi;by_cases e1:k=i
  ·rw[D4 e1]at hi;split at hi;·exact .inl (D3 hi).symm
   ·cases hi
  ·rw[D2 e1]at hi;exact .inr ⟨i,Ne.symm e1,hi⟩
 have hvb1: ∀x,VB (.tuple ((l.set k ((.slice none 0 0:Value),([]:List (List PV)))).map (·.1)).toArray) x->∃i p,i≠k/\l[i]? =some p/\ax p.1=some x:=by
  intro x hx;obtain⟨p,hp,h⟩:=ri.1 hx;rcases hset p hp with rfl|⟨i,hne,hi⟩;·simp[ax]at h
  ·exact⟨i,p,hne,hi,h⟩
 obtain⟨ψ,hψ⟩: ∃ψ:Nat->Value,ψ=λo=>if o=nx then u else if o=nx+1 then .tuple ((l.set k ((.slice none 0 0:Value),([]:List (List PV)))).map (·.1)).toArray else φ o:=⟨_,rfl⟩
 have ψ0:ψ nx=u:=(by rw[hψ];simp);have ψ1:ψ (nx+1)= .tuple ((l.set k ((.slice none 0 0:Value),([]:List (List PV)))).map (·.1)).toArray:=(by rw[hψ];simp);have ψo: ∀o,o<nx->ψ o=φ o:=λo ho=>(by rw[hψ];simp only[];rw[D2 (by omega),D2 (by omega)]);have hown: ∀i c,(St.mk sl ((nx+1,some (.fam e sz fr (l.set k (.slice none 0 0,[]))))::(nx,some (.sl e sz fr rows))::(q,none)::ow) (nx+2)).f.own i=some c->
   (i=nx+1/\c= .fam e sz fr (l.set k (.slice none 0 0,[])))∨(i=nx/\c= .sl e sz fr rows)∨(i≠q/\i≠nx/\i≠nx+1/\(St.mk sl ow nx).f.own i=some c):=by
  intro i c hi;simp only[St.f,ai]at hi;by_cases e1:nx+1=i;·rw[D4 e1]at hi;exact .inl ⟨e1.symm,(D3 hi).symm⟩
  ·rw[D2 e1]at hi;by_cases e2:nx=i;·rw[D4 e2]at hi;exact .inr (.inl ⟨e2.symm,(D3 hi).symm⟩)
   ·rw[D2 e2]at hi;by_cases e3:q=i;·rw[D4 e3]at hi;cases hi
    ·rw[D2 e3]at hi;exact .inr (.inr ⟨Ne.symm e3,Ne.symm e2,Ne.symm e1,hi⟩)
 have hZ: ∀f b,Zf K (St.mk sl ow nx).f φ f b->Zf K (St.mk sl ((nx+1,some (.fam e sz fr (l.set k (.slice none 0 0,[]))))::(nx,some (.sl e sz fr rows))::(q,none)::ow) (nx+2)).f ψ f b:=by
  refine λf b hb=>⟨⟨hb.1.1,λi c hi hvb=> ?_⟩,hb.2⟩;rcases hown i c hi with ⟨rfl,_⟩|⟨rfl,_⟩|⟨_,h1,h2,h3⟩
  ·rw[ψ1]at hvb;obtain⟨i,p,_,hi,hp⟩:=hvb1 b hvb;exact hb.1.2 q _ ho ((hvbq b).2 ⟨p,D7 hi,hp⟩)
  ·rw[ψ0]at hvb;exact hb.1.2 q _ ho ((hvbq b).2 ⟨_,hmem,(hl _ hmem).vb.1 hvb⟩)
  ·rw[ψo i (hφ.inU i c h3)]at hvb;exact hb.1.2 i c h3 hvb
 have hstep:RelW K (St.mk sl ((nx+1,some (.fam e sz fr (l.set k (.slice none 0 0,[]))))::(nx,some (.sl e sz fr rows))::(q,none)::ow) (nx+2)).f (· <nx+2) ψ a w:=by
  refine hφ.step (λ_=>False) (λo=>o=nx∨o=nx+1∨o=q) Y (λo ho=>G6 (G6 ho)) (λo ho=>ψo o ho) Y Y Y (DL _) (λ_ _ _=>rfl) (λ_ _ hd=>hd.elim) ?_ ?_ ?_
  ·intro i c hi hn;rcases hown i c hi with ⟨rfl,_⟩|⟨rfl,_⟩|⟨_,_,_,h⟩;·exact DU (.inr (.inl Y)) hn
   ·exact DU (.inl Y) hn
   ·exact h
  ·intro i c hi hc;rcases hown i c hi with ⟨rfl,rfl⟩|⟨rfl,rfl⟩|⟨h1,h2,h3,_⟩
   ·refine⟨Eh _,⟨ψ1,λp hp=> ?_,λi j p p' x hi hj hx hx'=> ?_⟩,λx hx=> ?_⟩
    ·rcases hset p hp with rfl|⟨i,_,hi⟩;·exact dy.nil _ _ _ _
     ·exact(hl p (D7 hi)).mono (λ_ _=>rfl) λb hb _=>⟨hZ _ b hb,rfl⟩
    ·have get: ∀(i:Nat) (p:Value×List (List PV)),(l.set k ((.slice none 0 0:Value),([]:List (List PV))))[i]? =some p->ax p.1=some x->l[i]? =some p:=by
      intro i p hi hx;rw[EK]at hi;by_cases e1:k=i
      ·rw[D4 e1]at hi;split at hi;·rw[<-D3 hi]at hx;simp[ax]at hx
       ·cases hi
      ·rwa[D2 e1]at hi
     exact hdis i j p p' x (get i p hi hx) (get j p' hj hx') hx hx'
    ·rw[ψ1]at hx;obtain⟨i,p,_,hi,hp⟩:=hvb1 x hx;exact .inr ⟨q,_,ho,(hvbq x).2 ⟨p,D7 hi,hp⟩,.inr (.inr Y)⟩
   ·refine⟨by show _<_;omega,?_,λx hx=> ?_⟩
    ·rw[ψ0];exact(hl _ hmem).mono (λ_ _=>rfl) λb hb _=>⟨hZ _ b hb,rfl⟩
    ·rw[ψ0]at hx;exact .inr ⟨q,_,ho,(hvbq x).2 ⟨_,hmem,(hl _ hmem).vb.1 hx⟩,.inr (.inr Y)⟩
   ·rcases hc with h|h|h;·exact DU h h2
    ·exact DU h h3
    ·exact DU h h1
  ·intro i j c c' x hi hj hci hcj hx hx';have hcross:VB (ψ nx) x->VB (ψ (nx+1)) x->False:=by
    intro h1 h2;rw[ψ0]at h1;rw[ψ1]at h2;obtain⟨i,p,hne,hi,hp⟩:=hvb1 x h2;exact hne (hdis i k p _ x hi hk hp ((hl _ hmem).vb.1 h1))
   rcases hown i c hi with ⟨rfl,_⟩|⟨rfl,_⟩|⟨h1,h2,h3,_⟩
   ·rcases hown j c' hj with ⟨rfl,_⟩|⟨rfl,_⟩|⟨h1,h2,h3,_⟩;·rfl
    ·exact(hcross hx' hx).elim
    ·rcases hcj with h|h|h;·exact DU h h2
     ·exact DU h h3
     ·exact DU h h1
   ·rcases hown j c' hj with ⟨rfl,_⟩|⟨rfl,_⟩|⟨h1,h2,h3,_⟩;·exact(hcross hx hx').elim
    ·rfl
    ·rcases hcj with h|h|h;·exact DU h h2
     ·exact DU h h3
     ·exact DU h h1
   ·rcases hci with h|h|h;·exact DU h h2
    ·exact DU h h3
    ·exact DU h h1
 obtain⟨v,hv2⟩:=eI hφ hg;refine⟨ψ,hstep.reslot (s:=g) (sv:= .eq u nx) hv2 ψ0 (by show nx<nx+2;omega) Y slot_put⟩
theorem Rel.join (k:Nat){g q n:Nat}{e:TypeId}{sz:Nat}{fr:Bool}{l:List (Value×List (List PV))}{u:Value}{rows:List (List PV)}(ho:(St.mk sl ow nx).f.own q=some (.fam e sz fr l))(hn:(St.mk sl ow nx).f.own n=some (.sl e sz fr rows))(hg:lk sl g=some (.eq u n))(hqn:Nat.beq q n=false)(h:Rel K ⟨sl,ow,nx⟩ a w):
  Rel K ⟨sl,(nx,some (.fam e sz fr (l.set k (u,rows))))::(q,none)::(n,none)::ow,nx+1⟩ a w:=by
 obtain⟨φ,hφ⟩:=h;obtain⟨hv,hl,hdis⟩:=hφ.own q _ ho;have hqn':q≠n:=λe=>(by subst e;simp at hqn);have hqx:q<nx:=hφ.inU q _ ho;have hnx:n<nx:=hφ.inU n _ hn;obtain⟨_,_,hu⟩:=hφ.slot g _ hg;have hu:φ n=u:=hu;have hsl:dy w (Zf K (St.mk sl ow nx).f φ fr) u e sz rows:=(by have:=hφ.own n _ hn;rwa[hu]at this);have hvbq: ∀x,VB (φ q) x↔∃p∈l,ax p.1=some x:=λx=>(by rw[hv];exact ri);have hget: ∀i p,(l.set k (u,rows))[i]? =some p->(i=k/\p=(u,rows))∨(i≠k/\l[i]? =some p):=by
  intro i p hi;rw[EK]at hi;by_cases e1:k=i
  ·rw[D4 e1]at hi;split at hi;·exact .inl ⟨e1.symm,(D3 hi).symm⟩
   ·cases hi
  ·rw[D2 e1]at hi;exact .inr ⟨Ne.symm e1,hi⟩
 have hvb1: ∀x,VB (.tuple ((l.set k (u,rows)).map (·.1)).toArray) x->VB (φ n) x∨VB (φ q) x:=by
  intro x hx;obtain⟨p,hp,h⟩:=ri.1 hx;obtain⟨i,hi⟩:=DH hp;rcases hget i p hi with ⟨_,rfl⟩|⟨_,hi⟩;·rw[hu];exact .inl (.inl h)
  ·exact .inr ((hvbq x).2 ⟨p,D7 hi,h⟩)
 obtain⟨ψ,hψ⟩: ∃ψ:Nat->Value,ψ=λo=>if o=nx then .tuple ((l.set k (u,rows)).map (·.1)).toArray else φ o:=⟨_,rfl⟩
 have ψ1:ψ nx= .tuple ((l.set k (u,rows)).map (·.1)).toArray:=(by rw[hψ];simp);have ψo: ∀o,o<nx->ψ o=φ o:=λo ho=>(by rw[hψ];simp only[];rw[D2 (by omega)]);have hown: ∀i c,(St.mk sl ((nx,some (.fam e sz fr (l.set k (u,rows))))::(q,none)::(n,none)::ow) (nx+1)).f.own i=some c->
   (i=nx/\c= .fam e sz fr (l.set k (u,rows)))∨(i≠q/\i≠n/\i≠nx/\(St.mk sl ow nx).f.own i=some c):=by
  intro i c hi;simp only[St.f,ai]at hi;by_cases e1:nx=i;·rw[D4 e1]at hi;exact .inl ⟨e1.symm,(D3 hi).symm⟩
  ·rw[D2 e1]at hi;by_cases e2:q=i;·rw[D4 e2]at hi;cases hi
   ·rw[D2 e2]at hi;by_cases e3:n=i;·rw[D4 e3]at hi;cases hi
    ·rw[D2 e3]at hi;exact .inr ⟨Ne.symm e2,Ne.symm e3,Ne.symm e1,hi⟩
 have hZ: ∀f b,Zf K (St.mk sl ow nx).f φ f b->Zf K (St.mk sl ((nx,some (.fam e sz fr (l.set k (u,rows))))::(q,none)::(n,none)::ow) (nx+1)).f ψ f b:=by
  refine λf b hb=>⟨⟨hb.1.1,λi c hi hvb=> ?_⟩,hb.2⟩;rcases hown i c hi with ⟨rfl,_⟩|⟨_,_,h1,h3⟩
  ·rw[ψ1]at hvb;rcases hvb1 b hvb with h|h;·exact hb.1.2 n _ hn h
   ·exact hb.1.2 q _ ho h
  ·rw[ψo i (hφ.inU i c h3)]at hvb;exact hb.1.2 i c h3 hvb
 refine⟨ψ,hφ.step (λ_=>False) (λo=>o=nx∨o=n∨o=q) Y (λo ho=>G6 ho) (λo ho=>ψo o ho) Y Y Y (DL _) (λ_ _ _=>rfl) (λ_ _ hd=>hd.elim) ?_ ?_ ?_⟩
 ·intro i c hi hn;rcases hown i c hi with ⟨rfl,_⟩|⟨_,_,_,h⟩;·exact DU (.inl Y) hn
  ·exact h
 ·intro i c hi hc;rcases hown i c hi with ⟨rfl,rfl⟩|⟨h1,h2,h3,_⟩
  ·refine⟨Eh _,⟨ψ1,λp hp=> ?_,λi j p p' x hi hj hx hx'=> ?_⟩,λx hx=> ?_⟩
   ·obtain⟨i,hi⟩:=DH hp;rcases hget i p hi with ⟨_,rfl⟩|⟨_,hi⟩;·exact hsl.mono (λ_ _=>rfl) λb hb _=>⟨hZ _ b hb,rfl⟩
    ·exact(hl p (D7 hi)).mono (λ_ _=>rfl) λb hb _=>⟨hZ _ b hb,rfl⟩
   ·have cross: ∀(i:Nat) (p:Value×List (List PV)),l[i]? =some p->ax p.1=some x->ax u=some x->False:=by
     intro i p hi hp hux;exact hqn' (hφ.dis q n _ _ x ho hn ((hvbq x).2 ⟨p,D7 hi,hp⟩) (by rw[hu];exact .inl hux))
    rcases hget i p hi with ⟨e1,rfl⟩|⟨_,hi⟩<;>rcases hget j p' hj with ⟨e2,rfl⟩|⟨_,hj⟩;·rw[e1,e2]
    ·exact(cross j p' hj hx' hx).elim
    ·exact(cross i p hi hx hx').elim
    ·exact hdis i j p p' x hi hj hx hx'
   ·rw[ψ1]at hx;rcases hvb1 x hx with h|h;·exact .inr ⟨n,_,hn,h,.inr (.inl Y)⟩
    ·exact .inr ⟨q,_,ho,h,.inr (.inr Y)⟩
  ·rcases hc with h|h|h;·exact DU h h3
   ·exact DU h h2
   ·exact DU h h1
 ·intro i j c c' x hi hj hci hcj hx hx';have one: ∀i c,(St.mk sl ((nx,some (.fam e sz fr (l.set k (u,rows))))::(q,none)::(n,none)::ow) (nx+1)).f.own i=some c->(i=nx∨i=n∨i=q)->i=nx:=by
   intro i c hi hc;rcases hown i c hi with ⟨h,_⟩|⟨h1,h2,_,_⟩;·exact h
   ·rcases hc with h|h|h;·exact h
    ·exact DU h h2
    ·exact DU h h1
  rw[one i c hi hci,one j c' hj hcj]
theorem re {α β:Type}(f:α->β)(l:List α):(l.map λp=>[f p]).flatten=l.map f:=by
 induction l with
 |nil=>rfl
 |cons p l ih=>rw[DZ,EP,ih];rfl
end
theorem T.nameO {K:Ctx}{sl:List (Nat×SV)}{ow:List (Nat×Option Own)}{nx:Nat}{c:Code}{Q:Exit->St->Prop}(g o:Nat){c0:Own}(hg:true=true)(ho:(St.mk sl ow nx).f.own o=some c0)(k: ∀u,T K c ⟨(g,.eq u o)::sl,ow,nx⟩ Q):T K c ⟨sl,ow,nx⟩ Q:=
 ⟨λa w hr=>by obtain⟨u,hu⟩:=hr.nameO g hg ho;exact(k u).out a w hu⟩
def isC:Operand->Bool
 | .const _=>true
 |_=>false
def Bf (E:EnvF):Op->Bool
 | .move _| .assign _| .unOp .. | .fieldAddr .. | .field .. | .extract .. | .build .. | .makeFunc .. | .convert .. | .box .. =>true
 | .nilCheck x=>match E.get x with
  |some (.optr ..)=>true
  |some (.fptr ..)=>true
  |_=>false
 | .load _ x=>match E.get x with
  |some (.optr q _ _ _)=>match E.own q with
   |some (.box _ _)=>true
   |_=>false
  |_=>true
 | .binOp .quo _ _ y _| .binOp .rem _ _ y _| .binOp .shl _ _ y _| .binOp .shr _ _ y _=>isC y
 | .binOp .. =>true
 | .call { callee:= .builtin .len,.. }=>true
 | .call { callee:= .builtin .max,.. }=>true
 | .call { callee:= .builtin .min,.. }=>true
 |_=>false
def stepE (K:Ctx)(o:Oper):St->Option St
 |⟨sl,ow,nx⟩=>match o.dst with
  |none=>none
  |some d=>match K.can d with
   |false=>none
   |true=>match o.op with
    | .box _ x=>match(St.mk sl ow nx).f.get x with
     |some sx=>match sx.ff with
      |some (fr,p)=>some ⟨(d,.optr nx 0 0 0)::sl,(nx,some (.box fr p.cells))::ow,nx+1⟩
      |none=>none
     |none=>none
    |_=>match ev K.P (St.mk sl ow nx).f o with
     |some sv=>some ⟨(d,sv)::sl,ow,nx⟩
     |none=>none
def xp (K:Ctx)(o:Oper)(E:St):Option St:=
 match o.guard with
 |some _=>none
 |none=>match Bf E.f o.op with
  |true=>stepE K o E
  |false=>none
def zJ (K:Ctx)(ops:Array Oper)(o:Oper)(E:St):Option St:=
 match wants ops E.f o with
 |some true=>stepE K o E
 |some false=>match o.dst with
  |some d=>match K.can d with
   |true=>match E with
    |⟨sl,ow,nx⟩=>some ⟨(d,.tup [])::sl,ow,nx⟩
   |false=>none
  |none=>none
 |none=>none
section
variable {K:Ctx}{ops:Array Oper}{dr:Bool}{o:Oper}{rest:List Oper}{R:St->Prop}{E E':St}
theorem J.stepE (hg:wants ops E.f o=some true)(h:stepE K o E=some E')(k:J K ops dr rest E' R):J K ops dr (o::rest) E R:=by
 obtain⟨sl,ow,nx⟩:=E;unfold Go.Proofs.YtopcjbahjjhdmaaGreat.stepE at h;simp only[]at h;split at h;·cases h
 ·rename_i d hd;split at h;·cases h
  ·rename_i hlt;split at h
   ·rename_i t x ho;split at h
    ·rename_i sx hx;split at h
     ·rename_i fr p hp;obtain rfl:=D3 h;exact J.bx ho hg hd hlt hx hp k
     ·cases h
    ·cases h
   ·split at h
    ·rename_i sv he;obtain rfl:=D3 h;exact J.e hg hd hlt he k
    ·cases h
theorem J.H (h:zJ K ops o E=some E')(k:J K ops dr rest E' R):J K ops dr (o::rest) E R:=by
 obtain⟨sl,ow,nx⟩:=E;unfold zJ at h;split at h;·rename_i hw;exact J.stepE hw h k
 ·rename_i hw;split at h
  ·rename_i d hd;split at h
   ·rename_i hlt;obtain rfl:=D3 h;exact J.skip hw hd hlt k
   ·cases h
  ·cases h
 ·cases h
theorem J.step1 (h:xp K o E=some E')(k:J K ops dr rest E' R):J K ops dr (o::rest) E R:=by
 unfold xp at h;split at h;·cases h
 ·rename_i hg;split at h;·exact J.stepE (by simp[wants,hg]) h k
  ·cases h
end
def zw (K:Ctx)(ops:Array Oper)(dr:Bool):List Oper->St->(St->Prop)->Prop
 | [],E,R=>R E
 |o::rest,E,R=>match xp K o E with
  |some E'=>zw K ops dr rest E' R
  |none=>J K ops dr (o::rest) E R
def CJ (K:Ctx)(l:List Oper)(E:St):Bool:=
 match l with
 | []=>true
 |o::_=>(xp K o E).isSome
theorem iL {K:Ctx}{ops:Array Oper}{dr:Bool}{R:St->Prop}: ∀{l:List Oper} {E:St},zw K ops dr l E R->J K ops dr l E R
 | [],E,h=> .nil h
 |o::rest,E,h=>by
  simp only[zw]at h;split at h;·rename_i E' hs;exact J.step1 hs (iL h)
  ·exact h
theorem J.G {K:Ctx}{ops:Array Oper}{dr:Bool}{l:List Oper}{R:St->Prop}{E:St}(_:CJ K l E=true)(h:zw K ops dr l E R):J K ops dr l E R:=iL h
def A0 (K:Ctx):Code->St->(Exit->St->Prop)->Prop
 | .seq x y,E,Q=>A0 K x E (sq K y Q)
 | .block id c,E,Q=>A0 K c E (bk id Q)
 | .region id ops false,E,Q=>zw K ops false ops.toList E (Q .normal)
 | .skip,E,Q=>Q .normal E
 | .exit id,E,Q=>Q (.exit id) E
 | .ret,E,Q=>Q .ret E
 | .label _,E,Q=>Q .normal E
 |c,E,Q=>T K c E Q
def CI:Code->Bool
 | .seq .. | .block .. | .region _ _ false| .skip| .exit _| .ret| .label _=>true
 |_=>false
theorem iK {K:Ctx}: ∀{c:Code} {E:St} {Q:Exit->St->Prop},A0 K c E Q->T K c E Q
 | .seq x y,E,Q,h=> .seq (iK h)
 | .block id c,E,Q,h=> .block (iK h)
 | .region id ops false,E,Q,h=> .r (iL h)
 | .region id ops true,E,Q,h=>h
 | .skip,E,Q,h=> .skip h
 | .exit id,E,Q,h=> .exit h
 | .ret,E,Q,h=> .ret h
 | .label l,E,Q,h=> .label h
 | .cond ..,_,_,h=>h
 | .loop _,_,_,h=>h
 | .rangeFunc ..,_,_,h=>h
 | .scope _,_,_,h=>h
 | .goto _,_,_,h=>h
 | .refuse _,_,_,h=>h
theorem T.G {K:Ctx}{c:Code}{E:St}{Q:Exit->St->Prop}(_:CI c=true)(h:A0 K c E Q):T K c E Q:=iK h
def sO (K:Ctx)(ops:Array Oper)(dr:Bool)(l:List Oper)(E:St)(R:St->Prop)(P:Prop):Prop:=P->J K ops dr l E R
def sN (K:Ctx)(c:Code)(E:St)(Q:Exit->St->Prop)(P:Prop):Prop:=P->T K c E Q
section
variable {K:Ctx}{ops:Array Oper}{dr:Bool}{l rest:List Oper}{o:Oper}{R:St->Prop}{E E':St}{c:Code}{Q:Exit->St->Prop}{P:Prop}
theorem stA (_:CJ K l E=true):sO K ops dr l E R (zw K ops dr l E R):=λh=>iL h
theorem stB (h:zJ K ops o E=some E'):sO K ops dr (o::rest) E R (J K ops dr rest E' R):=λk=>J.H h k
theorem tA (_:CI c=true):sN K c E Q (A0 K c E Q):=λh=>iK h
theorem tB {id:Nat}(hmix:K.P.follows .mixedOrders=true)(hok:okD ops ops.size=true):sN K (.region id ops true) E Q (J K ops true ops.toList E (Q .normal)):=λh=>T.rd hmix hok h
theorem J.A (h:P)(s:sO K ops dr l E R P:=by first|exact stA Y|exact stB Y):J K ops dr l E R:=s h
theorem J.N (h:P)(s:sO K ops dr l E R P:=by first|exact stA Y|exact stB Y):J K ops dr l E R:=s h
theorem T.A (h:P)(s:sN K c E Q P:=by first|exact tA Y|exact tB Y (by decide +kernel)):T K c E Q:=s h
theorem T.N (h:P)(s:sN K c E Q P:=by exact tA Y):T K c E Q:=s h
end
section
variable {K:Ctx}{ops:Array Oper}{dr:Bool}{o:Oper}{rest:List Oper}{sl:List (Nat×SV)}{ow:List (Nat×Option Own)}{nx:Nat}{R:St->Prop}{d:Nat}
theorem J.C {x:Operand}{args:Array Operand}{tys:Array TypeId}{f:FuncId}{first caps ps ps':List PV}{al fx:Bool}{res:List RV}(hspec:Spec K.P f al ps' res)
  (q:J K ops dr rest ⟨(d,RV.one (!al) nx res)::sl,cw nx (RV.owns (!al) res) ow,nx+(RV.owns (!al) res).length⟩ R)
  (ho:o.op= .call { callee:= .value x,args:=args,argTypes:=tys }:=by exact Y) (hg:wants ops (St.mk sl ow nx).f o=some true:=by exact Y) (hd:o.dst=some d:=by exact Y) (hlt:K.can d=true:=by exact Y)
  (hx:(St.mk sl ow nx).f.get x=some (.val fx (.fn (.func f) first caps)):=by exact Y) (ha:bW (St.mk sl ow nx).f al args.toList=some ps:=by exact Y) (he:first++ps++caps=ps':=by exact Y):J K ops dr (o::rest) ⟨sl,ow,nx⟩ R:=
 J.cc ho hg hd hlt hx hspec ha he q
theorem J.I {t:TypeId}{x i:Operand}{sx:SV}{fr fi:Bool}{rows:List (List PV)}{r:List PV}{k:IntKind}{m:Int}{e:TypeId}{inf:TypeInfo}(hrow:rows[m.toNat]? =some r)(q:J K ops dr rest ⟨(d,.fptr fr r)::sl,ow,nx⟩ R)
  (ho:o.op= .indexAddr t x i:=by exact Y) (hg:wants ops (St.mk sl ow nx).f o=some true:=by exact Y) (hd:o.dst=some d:=by exact Y) (hlt:K.can d=true:=by exact Y)
  (hx:(St.mk sl ow nx).f.get x=some sx:=by exact Y) (hr:sx.ff=some (fr,.sl rows):=by exact Y) (hi:(St.mk sl ow nx).f.get i=some (.val fi (.int k m)):=by exact Y) (hu:K.P.underlying t=some (.slice e):=by exact Y) (hinf:K.P.info? e=some inf:=by exact Y)
  (hl:r.length=inf.size:=by exact Y) (h0:0<=m:=by omega):J K ops dr (o::rest) ⟨sl,ow,nx⟩ R:=
 J.i ho hg hd hlt hx hr hi hu hinf h0 hrow hl q
theorem J.V {t e:TypeId}{len:Nat}{fr:Bool}{parts:Array (Nat×Operand)}{rows:List (List PV)}{inf:TypeInfo}{z:Value}(q:J K ops dr rest ⟨(d,.val fr (.sl rows))::sl,ow,nx⟩ R)
  (ho:o.op= .buildSlice t len parts:=by exact Y) (hg:wants ops (St.mk sl ow nx).f o=some true:=by exact Y) (hd:o.dst=some d:=by exact Y) (hlt:K.can d=true:=by exact Y)
  (hu:K.P.underlying t=some (.slice e):=by exact Y) (hinf:K.P.info? e=some inf:=by exact Y) (hz:inf.zero=some z:=by exact Y) (hzs:z.cells.size=inf.size:=by exact Y) (hr:c5 (St.mk sl ow nx).f inf.size 0 parts.toList=some (fr,rows):=by exact Y) (hl:rows.length=len:=by exact Y) (hm:Nat.ble (len*inf.size) 16777216=true:=by exact Y) (hm2:Nat.ble len 16777216=true:=by exact Y):J K ops dr (o::rest) ⟨sl,ow,nx⟩ R:=
 J.bv ho hg hd hlt hu hinf hz hzs hr hl hm hm2 q
theorem J.O {t e:TypeId}{len:Nat}{fr:Bool}{parts:Array (Nat×Operand)}{rows:List (List PV)}{inf:TypeInfo}{z:Value}(q:J K ops dr rest ⟨(d,.ref nx)::sl,(nx,some (.sl e inf.size fr rows))::ow,nx+1⟩ R)
  (ho:o.op= .buildSlice t len parts:=by exact Y) (hg:wants ops (St.mk sl ow nx).f o=some true:=by exact Y) (hd:o.dst=some d:=by exact Y) (hlt:K.can d=true:=by exact Y)
  (hu:K.P.underlying t=some (.slice e):=by exact Y) (hinf:K.P.info? e=some inf:=by exact Y) (hz:inf.zero=some z:=by exact Y) (hzs:z.cells.size=inf.size:=by exact Y) (hr:c5 (St.mk sl ow nx).f inf.size 0 parts.toList=some (fr,rows):=by exact Y) (hl:rows.length=len:=by exact Y) (hm:Nat.ble (len*inf.size) 16777216=true:=by exact Y) (hm2:Nat.ble len 16777216=true:=by exact Y):J K ops dr (o::rest) ⟨sl,ow,nx⟩ R:=
 J.bo ho hg hd hlt hu hinf hz hzs hr hl hm hm2 q
theorem J.B {P:Prop}{l:List Oper}{E:St}(h:P)(s:P->J K ops dr l E R:=by
 refine λh=> ?_
 repeat (refine .A ?_;conv=>whnf)
 exact h):J K ops dr l E R:=s h
theorem T.B {P:Prop}{c:Code}{E:St}{Q:Exit->St->Prop}(h:P)(s:P->T K c E Q:=by
 refine λh=> ?_
 repeat (refine .A ?_;conv=>whnf)
 exact h):T K c E Q:=s h
theorem J.M {P:Prop}{l:List Oper}{E:St}(h:P)(s:P->J K ops dr l E R:=by
 refine λh=> ?_
 repeat (refine .N ?_;conv=>whnf)
 exact h):J K ops dr l E R:=s h
theorem T.M {P:Prop}{c:Code}{E:St}{Q:Exit->St->Prop}(h:P)(s:P->T K c E Q:=by
 refine λh=> ?_
 repeat (refine .N ?_;conv=>whnf)
 exact h):T K c E Q:=s h
theorem J.W {t:TypeId}{x y:Operand}{q i off st:Nat}{c c':Own}{sy:SV}{fp:Bool}{p:PV}{inf:TypeInfo}(k:J K ops false rest ⟨sl,(q,some c')::ow,nx⟩ R)
  (ho:o.op= .store t x y:=by exact Y) (hg:wants ops (St.mk sl ow nx).f o=some true:=by exact Y) (hd:o.dst=none:=by exact Y) (hx:(St.mk sl ow nx).f.get x=some (.optr q i off st):=by exact Y) (hq:(St.mk sl ow nx).f.own q=some c:=by exact Y) (hy:(St.mk sl ow nx).f.get y=some sy:=by exact Y) (hp:sy.ff=some (fp,p):=by exact Y)
  (hi:K.P.info? t=some inf:=by exact Y) (hs:p.cells.length=inf.size:=by exact Y) (hc:c.put i off st fp p.cells=some c':=by exact Y):J K ops false (o::rest) ⟨sl,ow,nx⟩ R:=J.w ho hg hd hx hq hy hp hi hs hc k
theorem J.L {t:TypeId}{ps:List PV}{inf:TypeInfo}{z:Value}(q:J K ops dr rest ⟨(d,.optr nx 0 0 0)::sl,(nx,some (.box true ps))::ow,nx+1⟩ R)
  (ho:o.op= .alloc t:=by exact Y) (hg:wants ops (St.mk sl ow nx).f o=some true:=by exact Y) (hd:o.dst=some d:=by exact Y) (hlt:K.can d=true:=by exact Y) (hi:K.P.info? t=some inf:=by exact Y) (hz:inf.zero=some z:=by exact Y) (hps:gg z.cells.toList=some ps:=by exact Y):J K ops dr (o::rest) ⟨sl,ow,nx⟩ R:=J.al ho hg hd hlt hi hz hps q
end
theorem r1 {P:Program}{E:EnvF}{al:Bool}{t:Tmp}{sv:SV}{fr:Bool}{p p':PV}(hs:E.slot t=some sv:=by exact Y)(hf:sv.ff=some (fr,p):=by exact Y)(he:p=p':=by exact Y)(hfr:al=false->fr=true:=by exact λ_=>rfl): ∃os,Ret P E al [.tmp t] [.val p'] os:=⟨_,.v hs hf he hfr .nil⟩
theorem r2 {P:Program}{E:EnvF}{al:Bool}{t t2:Tmp}{sv sv2:SV}{fr fr2:Bool}{p p' p2 p2':PV}(hs:E.slot t=some sv:=by exact Y)(hf:sv.ff=some (fr,p):=by exact Y)(he:p=p':=by exact Y)(hfr:al=false->fr=true:=by exact λ_=>rfl)(hs2:E.slot t2=some sv2:=by exact Y)(hf2:sv2.ff=some (fr2,p2):=by exact Y)(he2:p2=p2':=by exact Y)(hfr2:al=false->fr2=true:=by exact λ_=>rfl): ∃os,Ret P E al [.tmp t,.tmp t2] [.val p',.val p2'] os:=⟨_,.v hs hf he hfr (.v hs2 hf2 he2 hfr2 .nil)⟩
def Cp (E:St):List Nat:=E.sl.map (·.1)
def AV (k:Nat):List (Nat×SV)->Nat
 | []=>0
 |(s,sv)::l=>match sv with
  | .ref o| .optr o _ _ _| .eq _ o=>match Nat.beq o k with
   |true=>s
   |false=>AV k l
  |_=>AV k l
def Aa (sl:List (Nat×SV)):Nat->Nat->List Nat
 |_,0=>[]
 |k,n+1=>AV k sl::Aa sl (k+1) n
def CL (E:St):List Nat:=Aa E.sl 0 E.nx
theorem T.K {K:Ctx}{c:Code}{E E':St}{Q:Exit->St->Prop}(k:T K c E' Q)(h:kF E (Cp E') (CL E')=E':=by exact Y)(hd:dup (gV E.f (CL E'))=false:=by exact Y):T K c E Q:=T.canon hd (h▸k)
section
variable {K:Ctx}{ops:Array Oper}{dr:Bool}{o:Oper}{rest:List Oper}{sl:List (Nat×SV)}{ow:List (Nat×Option Own)}{nx:Nat}{R:St->Prop}{d:Nat}{P:Prop}
theorem J.D {x:Operand}{args:Array Operand}{tys:Array TypeId}{f:FuncId}{first caps ps ps':List PV}{al fx:Bool}{res:List RV}(hspec:Spec K.P f al ps' res)
  (q:P)
  (ho:o.op= .call { callee:= .value x,args:=args,argTypes:=tys }:=by exact Y) (hg:wants ops (St.mk sl ow nx).f o=some true:=by exact Y) (hd:o.dst=some d:=by exact Y) (hlt:K.can d=true:=by exact Y)
  (hx:(St.mk sl ow nx).f.get x=some (.val fx (.fn (.func f) first caps)):=by exact Y) (ha:bW (St.mk sl ow nx).f al args.toList=some ps:=by exact Y) (he:first++ps++caps=ps':=by exact Y) (s:P->J K ops dr rest ⟨(d,RV.one (!al) nx res)::sl,cw nx (RV.owns (!al) res) ow,nx+(RV.owns (!al) res).length⟩ R:=by
 refine λh=> ?_
 repeat (refine .A ?_;conv=>whnf)
 exact h):J K ops dr (o::rest) ⟨sl,ow,nx⟩ R:=J.cc ho hg hd hlt hx hspec ha he (s q)
theorem J.F {t:TypeId}{x i:Operand}{sx:SV}{fr fi:Bool}{rows:List (List PV)}{r:List PV}{k:IntKind}{m:Int}{e:TypeId}{inf:TypeInfo}(hrow:rows[m.toNat]? =some r)(q:P)
  (ho:o.op= .indexAddr t x i:=by exact Y) (hg:wants ops (St.mk sl ow nx).f o=some true:=by exact Y) (hd:o.dst=some d:=by exact Y) (hlt:K.can d=true:=by exact Y)
  (hx:(St.mk sl ow nx).f.get x=some sx:=by exact Y) (hr:sx.ff=some (fr,.sl rows):=by exact Y) (hi:(St.mk sl ow nx).f.get i=some (.val fi (.int k m)):=by exact Y) (hu:K.P.underlying t=some (.slice e):=by exact Y) (hinf:K.P.info? e=some inf:=by exact Y)
  (hl:r.length=inf.size:=by exact Y) (h0:0<=m:=by omega) (s:P->J K ops dr rest ⟨(d,.fptr fr r)::sl,ow,nx⟩ R:=by
 refine λh=> ?_
 repeat (refine .A ?_;conv=>whnf)
 exact h):J K ops dr (o::rest) ⟨sl,ow,nx⟩ R:=J.i ho hg hd hlt hx hr hi hu hinf h0 hrow hl (s q)
theorem J.Z {t e:TypeId}{len:Nat}{fr:Bool}{parts:Array (Nat×Operand)}{rows:List (List PV)}{inf:TypeInfo}{z:Value}(q:P)
  (ho:o.op= .buildSlice t len parts:=by exact Y) (hg:wants ops (St.mk sl ow nx).f o=some true:=by exact Y) (hd:o.dst=some d:=by exact Y) (hlt:K.can d=true:=by exact Y)
  (hu:K.P.underlying t=some (.slice e):=by exact Y) (hinf:K.P.info? e=some inf:=by exact Y) (hz:inf.zero=some z:=by exact Y) (hzs:z.cells.size=inf.size:=by exact Y) (hr:c5 (St.mk sl ow nx).f inf.size 0 parts.toList=some (fr,rows):=by exact Y) (hl:rows.length=len:=by exact Y) (hm:Nat.ble (len*inf.size) 16777216=true:=by exact Y) (hm2:Nat.ble len 16777216=true:=by exact Y) (s:P->J K ops dr rest ⟨(d,.val fr (.sl rows))::sl,ow,nx⟩ R:=by
 refine λh=> ?_
 repeat (refine .A ?_;conv=>whnf)
 exact h):J K ops dr (o::rest) ⟨sl,ow,nx⟩ R:=J.bv ho hg hd hlt hu hinf hz hzs hr hl hm hm2 (s q)
theorem J.Q {t e:TypeId}{len:Nat}{fr:Bool}{parts:Array (Nat×Operand)}{rows:List (List PV)}{inf:TypeInfo}{z:Value}(q:P)
  (ho:o.op= .buildSlice t len parts:=by exact Y) (hg:wants ops (St.mk sl ow nx).f o=some true:=by exact Y) (hd:o.dst=some d:=by exact Y) (hlt:K.can d=true:=by exact Y)
  (hu:K.P.underlying t=some (.slice e):=by exact Y) (hinf:K.P.info? e=some inf:=by exact Y) (hz:inf.zero=some z:=by exact Y) (hzs:z.cells.size=inf.size:=by exact Y) (hr:c5 (St.mk sl ow nx).f inf.size 0 parts.toList=some (fr,rows):=by exact Y) (hl:rows.length=len:=by exact Y) (hm:Nat.ble (len*inf.size) 16777216=true:=by exact Y) (hm2:Nat.ble len 16777216=true:=by exact Y) (s:P->J K ops dr rest ⟨(d,.ref nx)::sl,(nx,some (.sl e inf.size fr rows))::ow,nx+1⟩ R:=by
 refine λh=> ?_
 repeat (refine .A ?_;conv=>whnf)
 exact h):J K ops dr (o::rest) ⟨sl,ow,nx⟩ R:=J.bo ho hg hd hlt hu hinf hz hzs hr hl hm hm2 (s q)
theorem J.X {t:TypeId}{x y:Operand}{n i off st:Nat}{c c':Own}{sy:SV}{fp:Bool}{p:PV}{inf:TypeInfo}(q:P)
  (ho:o.op= .store t x y:=by exact Y) (hg:wants ops (St.mk sl ow nx).f o=some true:=by exact Y) (hd:o.dst=none:=by exact Y) (hx:(St.mk sl ow nx).f.get x=some (.optr n i off st):=by exact Y) (hq:(St.mk sl ow nx).f.own n=some c:=by exact Y) (hy:(St.mk sl ow nx).f.get y=some sy:=by exact Y) (hp:sy.ff=some (fp,p):=by exact Y)
  (hi:K.P.info? t=some inf:=by exact Y) (hs:p.cells.length=inf.size:=by exact Y) (hc:c.put i off st fp p.cells=some c':=by exact Y) (s:P->J K ops false rest ⟨sl,(n,some c')::ow,nx⟩ R:=by
 refine λh=> ?_
 repeat (refine .A ?_;conv=>whnf)
 exact h):J K ops false (o::rest) ⟨sl,ow,nx⟩ R:=J.w ho hg hd hx hq hy hp hi hs hc (s q)
end
section
variable {K:Ctx}{x y:Code}{W:St}{Q:Exit->St->Prop}{f b:Bool}{o:Operand}{P:Prop}
theorem T.C (q:P)(hc:W.f.get o=some (.val f (.bool true)):=by exact Y)(s:P->T K x W Q:=by
 refine λh=> ?_
 repeat (refine .A ?_;conv=>whnf)
 exact h):T K (.cond o x y) W Q:=T.ct hc (s q)
theorem T.D (q:P)(hc:W.f.get o=some (.val f (.bool false)):=by exact Y)(s:P->T K y W Q:=by
 refine λh=> ?_
 repeat (refine .A ?_;conv=>whnf)
 exact h):T K (.cond o x y) W Q:=T.cf hc (s q)
theorem T.E (hc:W.f.get o=some (.val f (.bool b)))(hb:b=true)(q:P)(s:P->T K x W Q:=by
 refine λh=> ?_
 repeat (refine .A ?_;conv=>whnf)
 exact h):T K (.cond o x y) W Q:=T.ct2 hc hb (s q)
theorem T.F (hc:W.f.get o=some (.val f (.bool b)))(hb:b=false)(q:P)(s:P->T K y W Q:=by
 refine λh=> ?_
 repeat (refine .A ?_;conv=>whnf)
 exact h):T K (.cond o x y) W Q:=T.cf2 hc hb (s q)
end
end Go.Proofs.YtopcjbahjjhdmaaGreat
namespace Go.Proofs.YtopcjbahjjhdmaaGreat
open Go Go.RowKit
open Go.ChangeMaps (setBlock)
set_option linter.unusedVariables false
set_option linter.unusedSimpArgs false
set_option linter.unusedSectionVars false
def fiA {α β:Type}[DecidableEq α](l:List (α×β))(a:α):Option Nat:=l.findIdx? λp=>decide (p.1=a)
def lkA {α β:Type}[DecidableEq α](l:List (α×β))(a:α):Option β:=(fiA l a).bind λj=>(l[j]?).map (·.2)
def upA {α β:Type}[DecidableEq α](l:List (α×β))(a:α)(b:β):List (α×β):=match fiA l a with
 |some j=>l.set j (a,b)
 |none=>l++[(a,b)]
def dlA {α β:Type}[DecidableEq α](l:List (α×β))(a:α):List (α×β):=match fiA l a with
 |some j=>l.eraseIdx j
 |none=>l
structure KeyK (P:Program)(kt:TypeId){α:Type}[DecidableEq α](ek:α->Value):Prop where
 same: ∃kind,P.underlying kt=some kind/\∀a b,Instr.sameNow kind (ek a) (ek b)=some (decide (a=b))
 chk: ∀(e:Bool) (a:α) (w:World),(Instr.checkKey e 10000 kt (ek a)).run P w= .ok () w
 bits: ∀a,Instr.sameBits 10000 (ek a) (ek a)=true
theorem rz (a b:ByteArray):(a==b)=decide (a=b):=by
 have h:(a==b)=(a.data==b.data):=rfl;rw[h];by_cases e:a=b;·subst e;simp
 ·rw[DC e];have:a.data≠b.data:=λh=>e (ByteArray.ext h);simpa using this
theorem nw {P:Program}{kt:TypeId}(h:P.underlying kt=some (.int .i64)):KeyK P kt (Value.int .i64):=by
 refine⟨⟨_,h,λa b=>by simp only[Instr.sameNow,if_true];by_cases e:a=b<;>simp[e]⟩,λe a w=> ?_,λa=>by simp[Instr.sameBits]⟩;rw[Instr.checkKey];simp only[DK,run_underlying h,DA];rfl
theorem C2 {P:Program}{kt:TypeId}(h:P.underlying kt=some .string):KeyK P kt Value.string:=by
 refine⟨⟨_,h,λa b=>by simp only[Instr.sameNow,rz]⟩,λe a w=> ?_,λa=>by simp[Instr.sameBits,rz]⟩;rw[Instr.checkKey];simp only[DK,run_underlying h,DA];rfl
section
variable {α β:Type}[DecidableEq α]{P:Program}{kt:TypeId}{ek:α->Value}
theorem po {kind:TypeDesc}(hs: ∀a b,Instr.sameNow kind (ek a) (ek b)=some (decide (a=b)))(a:α): ∀(es:List MapEntry) (l:List (α×β)) (i:Nat),L2 (λ(e:MapEntry) p=>e.key=ek p.1) es l->
  Instr.findNow kind (ek a) es i=some ((fiA l a).bind λj=>(es[j]?).map λe=>(i+j,e.val))
 | [],[],i,.nil=>rfl
 |e::es,p::l,i,.cons h hr=>by
  rw[Instr.findNow,h,hs];by_cases hab:a=p.1
  ·have hf:fiA (p::l) a=some 0:=(by simp[fiA,FR,hab]);rw[DD hab,hf];rfl
  ·have hf:fiA (p::l) a=(fiA l a).map (· +1):=(by simp[fiA,FR,Ne.symm hab]);rw[DC hab];simp only[];rw[po hs a es l (i+1) hr,hf];cases fiA l a with
   |none=>rfl
   |some j=>simp[En,FC 1]
theorem rh {l:List (α×β)}{a:α}{j:Nat}(h:fiA l a=some j): ∃p,l[j]? =some p/\p.1=a:=by
 unfold fiA at h;rw[Ec]at h;obtain⟨hj,h1,_⟩:=h;exact⟨l[j],D1 hj,by simpa using h1⟩
theorem om (K:KeyK P kt ek)(w:World)(a:α){es:List MapEntry}{l:List (α×β)}(h:L2 (λ(e:MapEntry) p=>e.key=ek p.1) es l):
  (Instr.findKey kt (ek a) es).run P w= .ok ((fiA l a).bind λj=>(es[j]?).map λe=>(j,e.val)) w:=by
 obtain⟨kind,hu,hs⟩:=K.same;have hf:=po hs a es l 0 h;simp only[Instr.findKey,DK,run_underlying hu,DA,hf];simp
theorem ko {w:World}{g:Nat}{es:Array MapEntry}{c:Nat}(h:w.heap[g]? =some (.map es c)):(getObj g).run P w= .ok (.map es c) w:=by simp[getObj,Sem.run,h]
theorem ic {w:World}{g:Nat}{es:Array MapEntry}{c:Nat}(o:Obj)(h:w.heap[g]? =some (.map es c)):(setObj g o).run P w= .ok () { w with heap:=w.heap.setIfInBounds g o }:=by simp[setObj,Sem.run,h]
theorem L2.unmap {α β γ:Type}{R:α->γ->Prop}{f:β->γ}: ∀{xas:List α} {bs:List β},L2 R xas (bs.map f)->L2 (λa b=>R a (f b)) xas bs
 | [],[],.nil=> .nil
 |_::_,_::_,.cons h hr=> .cons h hr.unmap
theorem oh {t et:TypeId}{w:World}{g:Nat}{es:Array MapEntry}{clock:Nat}{l:List (α×β)}{z:Value}(K:KeyK P kt ek)(hu:P.underlying t=some (.map kt et))(hb:w.heap[g]? =some (.map es clock))(hk:L2 (λ(e:MapEntry) p=>e.key=ek p.1) es.toList l)
  (hz:(zeroValue et).run P w= .ok z w) (a:α) (ok:Bool):(Instr.lookup t (.map (some g)) (ek a) ok).run P w= .ok (let r:=((fiA l a).bind λj=>(es.toList[j]?).map (·.val));if ok then .tuple #[r.getD z,.bool r.isSome]else r.getD z) w:=by
 have hf:=om K w a hk;have hc:=K.chk es.isEmpty a w;simp only[Instr.lookup,DK,run_underlying hu,DA,ko hb];simp only[Dr,DA,hc,hf];cases hfi:fiA l a with
 |none=>simp[hz]
 |some j=>
  obtain⟨p,hp,_⟩:=rh hfi;obtain⟨e,he,_⟩:=hk.get hp;have he':es[j]? =some e:=(by simpa using he);simp[he']
theorem vM {t et:TypeId}{w:World}{g:Nat}{es:Array MapEntry}{clock:Nat}{l:List (α×β)}(K:KeyK P kt ek)(hu:P.underlying t=some (.map kt et))(hb:w.heap[g]? =some (.map es clock))(hk:L2 (λ(e:MapEntry) p=>e.key=ek p.1) es.toList l)
  (a:α) (v:Value):(Instr.mapUpdate t (.map (some g)) (ek a) v).run P w= .ok () { w with heap:=w.heap.setIfInBounds g (match fiA l a with
   |some j=> .map (es.modify j λe=> { e with key:=ek a,val:=v }) clock
   |none=> .map (es.push { key:=ek a,val:=v,born:=clock }) (clock+1)) }:=by
 have hf:=om K w a hk;have hc:=K.chk false a w;simp only[Instr.mapUpdate,DK,run_underlying hu,DA,ko hb];simp only[Dr,DA,hc,hf];cases hfi:fiA l a with
 |none=>
  simp only[Option.bind_none];rw[ic _ hb]
 |some j=>
  obtain⟨p,hp,hpa⟩:=rh hfi;obtain⟨e,he,hek⟩:=hk.get hp;have he':es[j]? =some e:=(by simpa using he);have hkey:e.key=ek a:=(by rw[hek,hpa]);simp only[Fu,Eo,he',EG,Ed,hkey,Instr.keyThatStays,K.bits a,if_true,DK,Dr,DA];rw[ic _ hb]
theorem vO {t et:TypeId}{w:World}{g:Nat}{es:Array MapEntry}{clock:Nat}{l:List (α×β)}(K:KeyK P kt ek)(hu:P.underlying t=some (.map kt et))(hb:w.heap[g]? =some (.map es clock))(hk:L2 (λ(e:MapEntry) p=>e.key=ek p.1) es.toList l)
  (a:α) (ty ty2:TypeId):(Builtin.delete_ #[t,ty2] ty #[.map (some g),ek a]).run P w= .ok (.tuple #[]) { w with heap:=w.heap.setIfInBounds g (match fiA l a with
   |some j=> .map (es.eraseIdxIfInBounds j) clock
   |none=> .map es clock) }:=by
 have hf:=om K w a hk;have hc:=K.chk es.isEmpty a w;simp only[Builtin.delete_,DK,F8,FE,El,run_underlying hu,DA,ko hb,hc,hf];cases hfi:fiA l a with
 |none=>
  simp only[Option.bind_none];rw[DK,ic _ hb];rfl
 |some j=>
  obtain⟨p,hp,hpa⟩:=rh hfi;obtain⟨e,he,hek⟩:=hk.get hp;have he':es[j]? =some e:=(by simpa using he);simp only[Fu,Eo,he',EG];rw[DK,ic _ hb];rfl
end
theorem RelW.turn {K:Ctx}{V:EnvF}{U:Nat->Prop}{φ:Nat->Value}{a:Act}{w w':World}(h:RelW K V U φ a w){q:Nat}{c c':Own}(hq:V.own q=some c)(hos:w'.os=w.os)(htape:w'.tape=w.tape)(hout:w'.output=w.output)(hsize:w.heap.size<=w'.heap.size)
  (hkeep: ∀b,b<w.heap.size->¬VB (φ q) b->w'.heap[b]? =w.heap[b]?) (hnew:(∀f b,Zf K V φ f b->b<w.heap.size->Zf K V φ f b/\w'.heap[b]? =w.heap[b]?)->ar w' (Zf K V φ) (φ q) c'):RelW K ⟨V.slot,λj=>if j=q then some c' else V.own j⟩ U φ a w':=by
 have hdom: ∀j c2,(if j=q then some c' else V.own j)=some c2->∃c3,V.own j=some c3:=by
  intro j c2 hj;by_cases e:j=q;·subst e;exact⟨c,hq⟩
  ·rw[D2 e]at hj;exact⟨c2,hj⟩
 have hZ: ∀f b,Zf K ⟨V.slot,λj=>if j=q then some c' else V.own j⟩ φ f b↔Zf K V φ f b:=by
  intro f b;constructor
  ·refine λhb=>⟨⟨hb.1.1,λj c2 hj=> ?_⟩,hb.2⟩;by_cases e:j=q;·subst e;exact hb.1.2 j c' (D4 Y)
   ·exact hb.1.2 j c2 ((D2 e).trans hj)
  ·refine λhb=>⟨⟨hb.1.1,λj c2 hj=> ?_⟩,hb.2⟩;obtain⟨c3,h3⟩:=hdom j c2 hj;exact hb.1.2 j c3 h3
 refine h.step (λb=>VB (φ q) b) (λj=>j=q) Y (λ_ hu=>hu) (λ_ _=>rfl) hos htape hout hsize hkeep ?_ ?_ ?_ ?_;·exact λb _ hb=>⟨q,c,hq,hb,rfl⟩
 ·intro j c1 hj hne;simpa[hne]using hj
 ·rintro j c1 hj rfl;simp only[D4,D6]at hj;subst hj;refine⟨h.inU _ c hq,?_,λg' hg'=> .inr ⟨_,c,hq,hg',rfl⟩⟩;have e:Zf K ⟨V.slot,λi=>if i=j then some c' else V.own i⟩ φ=Zf K V φ:=funext λf=>funext λb=>propext (hZ f b);rw[e];refine hnew λf b hb hlt=>⟨hb,hkeep b hlt λhv=>hb.1.2 _ c hq hv⟩
 ·rintro j j' _ _ _ _ _ rfl rfl _ _;rfl
section
variable {α β:Type}[DecidableEq α]{ek:α->Value}{en:β->PV}
omit [DecidableEq α]in
theorem li {w:World}{Z:Nat->Prop}{es:List MapEntry}{l:List (α×β)}(h:L2 (λ(e:MapEntry) p=>e.key=p.1/\Rep w Z e.val p.2) es (l.map λp=>(ek p.1,en p.2))):L2 (λ(e:MapEntry) p=>e.key=ek p.1) es l:=h.unmap.imp λ_ _ h=>h.1
theorem oe {α:Type}(f:α->α): ∀(l:List α) (j:Nat) (x:α),l[j]? =some x->l.modify j f=l.set j (f x)
 | [],j,x,h=>by simp at h
 |y::l,0,x,h=>by simp at h;subst h;rfl
 |y::l,j+1,x,h=>by simp at h;simp[oe f l j x h]
theorem L2.erase {α β:Type}{R:α->β->Prop}{xas:List α}{bs:List β}(h:L2 R xas bs)(n:Nat):L2 R (xas.eraseIdx n) (bs.eraseIdx n):=by
 induction h generalizing n with
 |nil=>simpa using L2.nil
 |cons h k ih=>cases n with
  |zero=>exact k
  |succ n=>exact .cons h (ih n)
theorem CU {w w':World}{Zb:Bool->Nat->Prop}{fr fp:Bool}{b:Option (List Nat×Nat)}{l:List (α×β)}{u:Value}{g:Nat}{es:Array MapEntry}{clock:Nat}{a:α}{y:β}{v:Value}(hu:u= .map (some g))
  (hl:L2 (λ(e:MapEntry) p=>e.key=p.1/\Rep w (Zb fr) e.val p.2) es.toList (l.map λp=>(ek p.1,en p.2))) (hbn: ∀e∈es.toList,e.born<clock) (hnd:(es.toList.map (·.born)).Nodup) (hone: ∀p∈l.map λp=>(ek p.1,en p.2),p.2.one=true)
  (hw':w'.heap[g]? =some (match fiA l a with
   |some j=> .map (es.modify j λe=> { e with key:=ek a,val:=v }) clock
   |none=> .map (es.push { key:=ek a,val:=v,born:=clock }) (clock+1)))
  (hm: ∀f,∀v p,Rep w (Zb f) v p->Rep w' (Zb f) v p) (hv:Rep w (Zb fp) v (en y)) (hy1:(en y).one=true) (hwk: ∀f g:Bool,(g=true->f=true)->∀v p,Rep w' (Zb f) v p->Rep w' (Zb g) v p):
  ar w' Zb u (.mp (fr&&fp) none ((upA l a y).map λp=>(ek p.1,en p.2))):=by
 have hl':L2 (λ(e:MapEntry) p=>e.key=p.1/\Rep w' (Zb (fr&&fp)) e.val p.2) es.toList (l.map λp=>(ek p.1,en p.2)):=hl.imp λ_ _ h=>⟨h.1,hwk fr (fr&&fp) (by simp;intro a _;exact a) _ _ (hm fr _ _ h.2)⟩;have hv':Rep w' (Zb (fr&&fp)) v (en y):=hwk fp (fr&&fp) (by simp) _ _ (hm fp _ _ hv);unfold upA;cases hfi:fiA l a with
 |none=>
  rw[hfi]at hw';refine⟨g,_,_,hu,hw',?_,?_,?_,?_,.inl Y⟩
  ·simp only[Gy,EC];exact hl'.append (.cons ⟨rfl,hv'⟩ .nil)
  ·intro e he;simp only[Gy,DT,DG]at he;rcases he with he|rfl;·exact G6 (hbn e he)
   ·exact Eh _
  ·simp only[Gy,EC,DZ,GG];rw[G7];refine⟨hnd,by simp,λx hx z hz=> ?_⟩;obtain⟨e,he,rfl⟩:=DF.1 hx;simp only[DG]at hz;subst hz;exact Gp (hbn e he)
  ·intro p hp;rw[EC,DT]at hp;rcases hp with hp|hp;·exact hone p hp
   ·simp only[DZ,GG,DG]at hp;subst hp;exact hy1
 |some j=>
  rw[hfi]at hw';obtain⟨p0,hp0,hpa⟩:=rh hfi;obtain⟨e0,he0,_⟩:=(li hl).get hp0;have htl:(es.modify j λe=> { e with key:=ek a,val:=v }).toList=es.toList.set j { e0 with key:=ek a,val:=v }:=(by rw[Array.toList_modify,oe _ _ _ _ he0]);have hborn:((es.toList.set j { e0 with key:=ek a,val:=v }).map (·.born))=es.toList.map (·.born):=by
   rw[Fz];apply Ej;intro i;rw[EK];by_cases e:j=i
   ·subst e;rw[D4 Y,DE,he0];have:=(D5.1 he0).1;rw[D4 (by simpa using this)];rfl
   ·rw[D2 e]
  refine⟨g,_,_,hu,hw',?_,?_,?_,?_,.inl Y⟩
  ·rw[htl,Fz];exact hl'.set j ⟨rfl,hv'⟩
  ·intro e he;rw[htl]at he;rcases DV he with he|rfl;·exact hbn e he
   ·exact hbn e0 (D7 he0)
  ·rw[htl,hborn];exact hnd
  ·intro p hp;rw[Fz]at hp;rcases DV hp with hp|rfl;·exact hone p hp
   ·exact hy1
end
section
variable {K:Ctx}{ops:Array Oper}{dr:Bool}{o:Oper}{rest:List Oper}{sl:List (Nat×SV)}{ow:List (Nat×Option Own)}{nx:Nat}{R:St->Prop}{d q:Nat}{α β:Type}[DecidableEq α]{ek:α->Value}{en:β->PV}{fr:Bool}{b:Option (List Nat×Nat)}{l:List (α×β)}{t kt et:TypeId}{x i:Operand}
theorem J.ml (a:α)(z:PV){zv:Value}{fi cok:Bool}{si:SV}{pi:PV}(ho:o.op= .lookup t x i cok)(hg:wants ops (St.mk sl ow nx).f o=some true)(hd:o.dst=some d)(hlt:K.can d=true)(hx:(St.mk sl ow nx).f.get x=some (.ref q))(hq:(St.mk sl ow nx).f.own q=some (.mp fr b (l.map λp=>(ek p.1,en p.2))))
  (hi:(St.mk sl ow nx).f.get i=some si) (hp:si.ff=some (fi,pi)) (hu:K.P.underlying t=some (.map kt et)) (hz: ∀w,(zeroValue et).run K.P w= .ok zv w) (hzr: ∀w Z,Rep w Z zv z) (hk:KeyK K.P kt ek) (hpk: ∀w Z v,Rep w Z v pi->v=ek a)
  (k:J K ops false rest ⟨(d,if cok=true then .tup [mkv fr (((lkA l a).map en).getD z),.val true (.bool (lkA l a).isSome)]else mkv fr (((lkA l a).map en).getD z))::sl,ow,nx⟩ R):J K ops false (o::rest) ⟨sl,ow,nx⟩ R:=by
 refine⟨TO.step hg ?_ k.out⟩;intro A w next Q hr hn
 obtain⟨φ,hφ⟩:=hr;obtain⟨hrx,_⟩:=ae hφ hx;have hrx:A.eval x=φ q:=hrx;have hri:=bC hφ hi hp;obtain⟨g,es,clock,hv,hb,hl,_,_,_,_⟩:=hφ.own q _ hq;have hrun:=oh (l:=l) hk hu hb (li hl) (hz w) a cok;have hrun':(execOp A.eval o).run K.P w= .ok (.value (let r:=((fiA l a).bind λj=>(es.toList[j]?).map (·.val));if cok then .tuple #[r.getD zv,.bool r.isSome]else r.getD zv)) w:=by
  simp only[execOp,ho,hrx,hv,hpk _ _ _ hri,DK,hrun,DA];rfl
 unfold Oper.wp;rw[hrun'];obtain⟨hval,hsome⟩:Rep w (Zf K (St.mk sl ow nx).f φ fr) (((fiA l a).bind λj=>(es.toList[j]?).map (·.val)).getD zv) (((lkA l a).map en).getD z)/\((fiA l a).bind λj=>(es.toList[j]?).map (·.val)).isSome=(lkA l a).isSome:=by
  unfold lkA;cases hfi:fiA l a with
  |none=>exact⟨hzr _ _,rfl⟩
  |some j=>
   obtain⟨p,hp,_⟩:=rh hfi;obtain⟨e,he,_,hr⟩:=hl.unmap.get hp;simp only[Fu,he,EG,hp,Ed,Option.isSome_some,and_true];exact hr
 refine hn _ _ ⟨φ,?_⟩;rw[hd];obtain⟨h3,h4⟩:=gQ (φ:=φ) (U:=(· <nx)) (fr:=fr) (Z:=Zf K (St.mk sl ow nx).f φ) hval;cases cok with
 |false=>exact hφ.put hlt (sv:=mkv fr (((lkA l a).map en).getD z)) h3 h4 rfl slot_put
 |true=>
  have hne: ∀ag l2,mkv fr (((lkA l a).map en).getD z)≠.tupB ag l2:=λ_ l2=>(by generalize ((lkA l a).map en).getD z=p;cases p<;>simp[mkv]);have hm: ∀(v:Value) (s:SV),aU w (Zf K (St.mk sl ow nx).f φ) φ v s->(∀ag l,s≠.tupB ag l)->ay w (Zf K (St.mk sl ow nx).f φ) φ v s:=λv s hs hne=>by cases s<;>first|exact hs|exact DU Y (hne _ _)
  have hm2: ∀s:SV,s.inU (· <nx)->(∀ag l,s≠.tupB ag l)->s.in1 (· <nx):=λs hs hne=>by cases s<;>first|exact hs|exact DU Y (hne _ _)
  refine hφ.put hlt (sv:= .tup [mkv fr (((lkA l a).map en).getD z),.val true (.bool (lkA l a).isSome)]) ⟨_,rfl,.cons (hm _ _ h3 hne) (.cons ?_ .nil)⟩ (λs hs=> ?_) Y slot_put;·rw[hsome];exact Rep.bool _
  ·simp only[DO,Ga,or_false]at hs;rcases hs with rfl|rfl;·exact hm2 _ h4 hne
   ·trivial
theorem J.mu (a:α)(y:β){v:Operand}{fi fp:Bool}{si sy:SV}{pi py:PV}(ho:o.op= .mapUpdate t x i v)(hg:wants ops (St.mk sl ow nx).f o=some true)(hd:o.dst=none)(hx:(St.mk sl ow nx).f.get x=some (.ref q))(hq:(St.mk sl ow nx).f.own q=some (.mp fr b (l.map λp=>(ek p.1,en p.2))))
  (hi:(St.mk sl ow nx).f.get i=some si) (hp:si.ff=some (fi,pi)) (hv:(St.mk sl ow nx).f.get v=some sy) (hpy:sy.ff=some (fp,py)) (hu:K.P.underlying t=some (.map kt et)) (h1:(en y).one=true) (hk:KeyK K.P kt ek) (hpk: ∀w Z v,Rep w Z v pi->v=ek a) (hy:py=en y)
  (k:J K ops false rest ⟨sl,(q,some (.mp (fr&&fp) none ((upA l a y).map λp=>(ek p.1,en p.2))))::ow,nx⟩ R):J K ops false (o::rest) ⟨sl,ow,nx⟩ R:=by
 refine⟨TO.step hg ?_ k.out⟩;intro A w next Q hr hn
 obtain⟨φ,hφ⟩:=hr;obtain⟨hrx,_⟩:=ae hφ hx;have hrx:A.eval x=φ q:=hrx;have hri:=bC hφ hi hp;have hrv:=bC hφ hv hpy;obtain⟨g,es,clock,hvm,hb,hl,hbn,hnd,hone,_⟩:=hφ.own q _ hq;have hrun:=vM (l:=l) hk hu hb (li hl) a (A.eval v);obtain⟨w',hw'⟩: ∃w':World,w'= { w with heap:=w.heap.setIfInBounds g (match fiA l a with
   |some j=> .map (es.modify j λe=> { e with key:=ek a,val:=A.eval v }) clock
   |none=> .map (es.push { key:=ek a,val:=A.eval v,born:=clock }) (clock+1)) }:=⟨_,rfl⟩
 have hrun':(execOp A.eval o).run K.P w= .ok .skip w':=by
  simp only[execOp,ho,hrx,hvm,hpk _ _ _ hri,DK,hrun,DA];rw[hw'];rfl
 unfold Oper.wp;rw[hrun'];have hput:A.put o.dst undef=A:=(by rw[hd];rfl);show next (A.put o.dst undef) w'
 rw[hput];have hglt:=(DR.1 hb).1;have hnew:w'.heap[g]? =some (match fiA l a with
   |some j=> .map (es.modify j λe=> { e with key:=ek a,val:=A.eval v }) clock
   |none=> .map (es.push { key:=ek a,val:=A.eval v,born:=clock }) (clock+1)):=by
  rw[hw'];simp[hglt]
 have hoth: ∀b',b'<w.heap.size->¬VB (φ q) b'->w'.heap[b']? =w.heap[b']? :=by
  intro b' _ hnv;have hne:g≠b':=(by rintro rfl;exact hnv (.inl (by rw[hvm];rfl)));rw[hw'];simp[hne]
 refine hn _ _ ⟨φ,?_⟩;have:=hφ.turn (w':=w') hq (by rw[hw']) (by rw[hw']) (by rw[hw']) (by rw[hw'];simp) hoth (c':= .mp (fr&&fp) none ((upA l a y).map λp=>(ek p.1,en p.2))) λhz=>by
  refine CU (b:=b) (l:=l) (a:=a) (v:=A.eval v) (clock:=clock) (es:=es) hvm hl hbn hnd hone hnew (λf v p hr=>hr.mono (hz f)) (fp:=fp) (by rw[<-hy];exact hrv) h1 (λf g hfg v p hr=>hr.weak hfg)
 have e:(St.mk sl ((q,some (.mp (fr&&fp) none ((upA l a y).map λp=>(ek p.1,en p.2))))::ow) nx).f=⟨(St.mk sl ow nx).f.slot,λj=>if j=q then some (.mp (fr&&fp) none ((upA l a y).map λp=>(ek p.1,en p.2)))else(St.mk sl ow nx).f.own j⟩:=by
  refine EnvF.ext (λ_=>rfl) λj=> ?_;simp only[St.f,ai];by_cases e:q=j;·subst e;simp
  ·rw[D2 e,D2 (Ne.symm e)]
 show RelW K (St.mk sl ((q,some (.mp (fr&&fp) none ((upA l a y).map λp=>(ek p.1,en p.2))))::ow) nx).f _ φ _ w';rw[e];exact this
theorem J.mm (ho:o.op= .makeMap t none)(hg:wants ops (St.mk sl ow nx).f o=some true)(hd:o.dst=some d)(hlt:K.can d=true)
  (k:J K ops dr rest ⟨(d,.ref nx)::sl,(nx,some (.mp true none []))::ow,nx+1⟩ R):J K ops dr (o::rest) ⟨sl,ow,nx⟩ R:=by
 refine .does hg hd hlt (.genO (xs:=[]) (l:=[]) (by simp) rfl ?_) k;intro a w _;refine⟨.map (some w.heap.size),w.alloc (.map #[] 0),?_,cS w _,λZ=>⟨w.heap.size,#[],0,rfl,heap_alloc_new w _,.nil,by simp,by simp,by simp,.inl rfl⟩,λg hg=> ?_⟩
 ·simp only[execOp,ho,FN,Instr.makeMap];rfl
 ·have:w.heap.size=g:=(by simpa[VB,ax]using hg);omega
theorem J.nxt {gs qi m clock:Nat}{bs:List Nat}{seen:Array Nat}{it:Operand}{ekp:α->PV}(ho:o.op= .next it false)(hg:wants ops (St.mk sl ow nx).f o=some true)(hd:o.dst=some d)(hlt:K.can d=true)(hi:(St.mk sl ow nx).f.get it=some (.ref qi))(hqi:(St.mk sl ow nx).f.own qi=some (.it m clock seen clock))(hgs:lk sl gs=some (.eq (.map (some m)) q))
  (hq:(St.mk sl ow nx).f.own q=some (.mp fr (some (bs,clock)) (l.map λp=>(ek p.1,en p.2)))) (hek: ∀w Z a,Rep w Z (ek a) (ekp a))
  (k0:(∀(i x:Nat),bs[i]? =some x->x∈seen)->J K ops false rest ⟨(d,.tup [.val true (.bool false)])::sl,ow,nx⟩ R)
  (k1: ∀(i:Nat) (p:α×β) (x:Nat),l[i]? =some p->bs[i]? =some x->x∉seen->J K ops false rest ⟨(d,.tup [.val true (.bool true),.val true (ekp p.1),mkv fr (en p.2)])::sl,(qi,some (.it m clock (seen.push x) clock))::ow,nx⟩ R):J K ops false (o::rest) ⟨sl,ow,nx⟩ R:=by
 refine⟨⟨λA w Q hr hn=> ?_⟩⟩;obtain⟨φ,hφ⟩:=hr;obtain⟨hri,_⟩:=ae hφ hi;have hri:A.eval it=φ qi:=hri;obtain⟨_,_,hm⟩:=hφ.slot gs _ hgs;have hm:φ q= .map (some m):=hm;obtain⟨g,es,ck,hvm,hb,hl,hbn,hnd,hone,hbb⟩:=hφ.own q _ hq;rw[hm]at hvm;cases hvm;have hbb:bs=es.toList.map (·.born)/\clock=ck:=by
  rcases hbb with h|h;·cases h
  ·simp only[D6,Prod.mk.injEq]at h;exact h
 obtain⟨hbs,rfl⟩:=hbb;obtain⟨r,hvi,hir⟩:=hφ.own qi _ hqi;unfold wpList;rw[D4 (aE hφ hg)];refine .inl ?_;have hleft: ∀e:MapEntry,e∈(leftOf es seen).toList↔e∈es.toList/\e.born∉seen:=by
  intro e;simp[leftOf]
 rcases run_next_at (P:=K.P) w o.type r m clock clock seen es clock hir hb hbn (DL _)with ⟨h0,hrun⟩|⟨e,he,w1,hw1,hrun⟩
 ·have hrun':(execOp A.eval o).run K.P w= .ok (.value (.tuple #[.bool false])) w:=by
   simp only[execOp,ho,hri,hvi,DK,hrun,DA];rfl
  unfold Oper.wp;rw[hrun'];have hall: ∀(i x:Nat),bs[i]? =some x->x∈seen:=by
   intro i x hx;rw[hbs,DE]at hx;obtain⟨e,he,rfl⟩:=DY.1 hx;by_cases hc:e.born∈seen;·exact hc
   ·have:=(hleft e).2 ⟨D7 he,hc⟩;have h00:(leftOf es seen).toList=[]:=by
     apply DP;simpa using h0
    rw[h00]at this;cases this
  have h3:RelW K (St.mk ((d,.tup [.val true (.bool false)])::sl) ow nx).f (· <nx) φ (A.put (some d) (.tuple #[.bool false])) w:=hφ.put hlt (sv:= .tup [.val true (.bool false)]) ⟨[.bool false],rfl,.cons (Rep.bool _) .nil⟩ (λs hs=>by simp at hs;subst hs;trivial) Y slot_put;have:=(k0 hall).out.out _ w Q ⟨φ,h3⟩ hn;rw[<-hd]at this;exact this
 ·obtain⟨he1,he2⟩:=(hleft e).1 he;obtain⟨i,hi2⟩:=DH he1;obtain⟨p,hp,hkey,hrep⟩:=hl.unmap.getl hi2;have hx:bs[i]? =some e.born:=(by rw[hbs,DE,hi2];rfl);have hrlt:=(DR.1 hir).1;have hne:r≠m:=(by rintro rfl;rw[hir]at hb;cases hb);have hrun':(execOp A.eval o).run K.P w= .ok (.value (.tuple #[.bool true,e.key,e.val])) (setBlock w1 r (.mapIter (some m) clock (seen.push e.born) clock)):=by
   simp only[execOp,ho,hri,hvi,DK,hrun,DA];rfl
  unfold Oper.wp;rw[hrun'];have hw1h:w1.heap=w.heap/\w1.os=w.os/\w1.tape=w.tape/\w1.output=w.output:=(by rcases hw1 with rfl|rfl<;>exact⟨rfl,rfl,rfl,rfl⟩);have hoth: ∀b',b'<w.heap.size->¬VB (φ qi) b'->(setBlock w1 r (.mapIter (some m) clock (seen.push e.born) clock)).heap[b']? =w.heap[b']? :=by
   intro b' _ hnv;have hne:r≠b':=(by rintro rfl;exact hnv (.inl (by rw[hvi];rfl)));simp[setBlock,hw1h.1,hne]
  have h2:=hφ.turn (w':=setBlock w1 r (.mapIter (some m) clock (seen.push e.born) clock)) hqi hw1h.2.1 hw1h.2.2.1 hw1h.2.2.2 (by simp[setBlock,hw1h.1]) hoth (c':= .it m clock (seen.push e.born) clock) λ_=>⟨r,hvi,by simp[setBlock,hw1h.1,hrlt]⟩;have e1:(St.mk sl ((qi,some (.it m clock (seen.push e.born) clock))::ow) nx).f=⟨(St.mk sl ow nx).f.slot,λj=>if j=qi then some (.it m clock (seen.push e.born) clock)else(St.mk sl ow nx).f.own j⟩:=by
   refine EnvF.ext (λ_=>rfl) λj=> ?_;simp only[St.f,ai];by_cases e:qi=j;·subst e;simp
   ·rw[D2 e,D2 (Ne.symm e)]
  rw[<-e1]at h2;have hqne:q≠qi:=(by rintro rfl;rw[hq]at hqi;cases hqi);obtain⟨g2,es2,ck2,hvm2,hb2,hl2,_⟩:=h2.own q (.mp fr (some (bs,clock)) (l.map λp=>(ek p.1,en p.2))) (by simp only[St.f,ai];rw[D2 (Ne.symm hqne)];exact hq);rw[hm]at hvm2;cases hvm2;have hes:es2=es:=by
   have h5:(setBlock w1 r (.mapIter (some m) clock (seen.push e.born) clock)).heap[m]? =w.heap[m]? :=(by simp[setBlock,hw1h.1,hne]);rw[h5,hb]at hb2;cases hb2;rfl
  subst hes;obtain⟨p2,hp2,_,hrep2⟩:=hl2.unmap.getl hi2;rw[hp]at hp2;cases hp2;obtain⟨h3,h4⟩:=gQ (φ:=φ) (U:=(· <nx)) (fr:=fr) (Z:=Zf K (St.mk sl ((qi,some (.it m clock (seen.push e.born) clock))::ow) nx).f φ) hrep2;have hne2: ∀ag l2,mkv fr (en p.2)≠.tupB ag l2:=λ_ l2=>(by generalize en p.2=pp;cases pp<;>simp[mkv]);have hm1: ∀(w:World) (v:Value) (s:SV),aU w (Zf K (St.mk sl ((qi,some (.it m clock (seen.push e.born) clock))::ow) nx).f φ) φ v s->(∀ag l,s≠.tupB ag l)->ay w (Zf K (St.mk sl ((qi,some (.it m clock (seen.push e.born) clock))::ow) nx).f φ) φ v s:=λw v s hs hne=>by cases s<;>first|exact hs|exact DU Y (hne _ _)
  have hm2: ∀s:SV,s.inU (· <nx)->(∀ag l,s≠.tupB ag l)->s.in1 (· <nx):=λs hs hne=>by cases s<;>first|exact hs|exact DU Y (hne _ _)
  have h5:RelW K (St.mk ((d,.tup [.val true (.bool true),.val true (ekp p.1),mkv fr (en p.2)])::sl) ((qi,some (.it m clock (seen.push e.born) clock))::ow) nx).f (· <nx) φ (A.put (some d) (.tuple #[.bool true,e.key,e.val])) _:=
   h2.put hlt (sv:= .tup [.val true (.bool true),.val true (ekp p.1),mkv fr (en p.2)]) ⟨[.bool true,e.key,e.val],rfl,.cons (Rep.bool _) (.cons (by rw[hkey];exact hek _ _ _) (.cons (hm1 _ _ _ h3 hne2) .nil))⟩ (λs hs=>by
    simp only[DO,Ga,or_false]at hs;rcases hs with rfl|rfl|rfl;·trivial
    ·trivial
    ·exact hm2 _ h4 hne2) Y slot_put
  have:=(k1 i p e.born hp hx he2).out.out _ _ Q ⟨φ,h5⟩ hn;rw[<-hd]at this;exact this
end
theorem Rel.fine {K:Ctx}{sl:List (Nat×SV)}{ow:List (Nat×Option Own)}{nx s:Nat}{p:PV}{fr:Bool}(hs:lk sl s=some (.val fr p))(hf:p.flat=true)(a:Act)(w:World)(h:Rel K ⟨sl,ow,nx⟩ a w):Rel K ⟨(s,.val true p)::sl,ow,nx⟩ a w:=by
 obtain⟨φ,hφ⟩:=h;obtain⟨v,hv,hr⟩:=hφ.slot s _ hs;have hr:Rep w _ v p:=hr;exact⟨φ,hφ.reslot (sv:= .val true p) hv (hr.flat hf) trivial Y slot_put⟩
theorem L2.flat {w:World}{Z Z':Nat->Prop}: ∀{vs:List Value} {ps:List PV},L2 (Rep w Z) vs ps->(∀p∈ps,p.flat=true)->L2 (Rep w Z') vs ps
 |_,_,.nil,_=> .nil
 |_,_,.cons h1 h2,hf=> .cons (h1.flat (hf _ (.head _))) (h2.flat λp hp=>hf p (.tail _ hp))
theorem Rel.fineF {K:Ctx}{sl:List (Nat×SV)}{ow:List (Nat×Option Own)}{nx s:Nat}{f:Fn}{first caps:List PV}{fr:Bool}(hs:lk sl s=some (.val fr (.fn f first caps)))(h1:first.all PV.flat=true)(h2:caps.all PV.flat=true)(a:Act)(w:World)(h:Rel K ⟨sl,ow,nx⟩ a w):Rel K ⟨(s,.val true (.fn f first caps))::sl,ow,nx⟩ a w:=by
 obtain⟨φ,hφ⟩:=h;obtain⟨v,hv,hr⟩:=hφ.slot s _ hs;have hr:Rep w _ v (.fn f first caps):=hr;refine⟨φ,hφ.reslot (sv:= .val true (.fn f first caps)) hv ?_ trivial Y slot_put⟩;show Rep w _ v (.fn f first caps);cases hr with
 |fn _ vs us _ _ ha hb=>exact .fn _ _ _ _ _ (ha.flat (DI.1 h1)) (hb.flat (DI.1 h2))
end Go.Proofs.YtopcjbahjjhdmaaGreat
namespace Go.Proofs.YtopcjbahjjhdmaaGreat
open Go Go.RowKit
set_option linter.unusedVariables false
set_option linter.unusedSimpArgs false
set_option linter.unusedSectionVars false
theorem ip {α β:Type}(f:α->β): ∀(l:List α) (j:Nat),(l.eraseIdx j).map f=(l.map f).eraseIdx j
 | [],j=>by simp
 |x::l,0=>by simp
 |x::l,j+1=>by simp[ip f l j]
theorem xw {w:World}{Z:Nat->Prop}{v u:Value}(h:Rep w Z v (.raw u)):v=u:=by cases h;rfl
section
variable {K:Ctx}{ops:Array Oper}{dr:Bool}{o:Oper}{rest:List Oper}{sl:List (Nat×SV)}{ow:List (Nat×Option Own)}{nx:Nat}{R:St->Prop}{d q:Nat}{α β:Type}[DecidableEq α]{ek:α->Value}{en:β->PV}{fr:Bool}{b:Option (List Nat×Nat)}{l:List (α×β)}{t kt et:TypeId}{x i:Operand}
theorem J.lm (g:Nat)(a:α){zv u:Value}{q':Nat}{fi:Bool}{si:SV}{pi:PV}(ho:o.op= .lookup t x i false)(hg:wants ops (St.mk sl ow nx).f o=some true)(hd:o.dst=some d)(hlt:K.can d=true)(hx:(St.mk sl ow nx).f.get x=some (.ref q))(hq:(St.mk sl ow nx).f.own q=some (.mp fr b (l.map λp=>(ek p.1,en p.2))))
  (hi:(St.mk sl ow nx).f.get i=some si) (hp:si.ff=some (fi,pi)) (hu:K.P.underlying t=some (.map kt et)) (hz: ∀w,(zeroValue et).run K.P w= .ok zv w) (hk:KeyK K.P kt ek) (hpk: ∀w Z v,Rep w Z v pi->v=ek a)
  (hval:((lkA l a).map en=some (.raw u))∨(lkA l a=none/\zv=u)) (hgs:lk sl g=some (.eq u q')) (hall:(ops.toList.all λo'=>o'.dst != some g)=true) (k:J K ops true rest ⟨(d,.ref q')::sl,ow,nx⟩ R):J K ops true (o::rest) ⟨sl,ow,nx⟩ R:=by
 obtain⟨E',h1,h2⟩:=k.out;refine⟨E',?_,h2⟩;refine TD.step (r:=⟨some d,.ref q',[],nx,none⟩) (.lmap hg hd hlt ho hx hq hi hp ?_ hgs hall) ?_
 ·intro A w Z hown hri;obtain⟨gb,es,clock,hv,hb,hl,_⟩:=hown;have hrun:=oh (l:=l) hk hu hb (li hl) (hz w) a false;simp only[execOp,ho,hv,hpk _ _ _ hri,DK,hrun,DA];have e:((fiA l a).bind λj=>(es.toList[j]?).map (·.val)).getD zv=u:=by
   unfold lkA at hval;cases hfi:fiA l a with
   |none=>
    rw[hfi]at hval;rcases hval with h|⟨_,h⟩;·cases h
    ·exact h
   |some j=>
    rw[hfi]at hval;obtain⟨p,hp,_⟩:=rh hfi;obtain⟨e,he,_,hr⟩:=hl.unmap.get hp;simp only[Fu,hp,EG,D6]at hval;rcases hval with h|⟨h,_⟩
    ·rw[h]at hr;simp only[Fu,he,EG,Ed];exact xw hr
    ·cases h
  simp only[EF,if_false];rw[e];rfl
 ·have e1:upd (St.mk sl ow nx).f ⟨some d,.ref q',[],nx,none⟩=(St.mk ((d,.ref q')::sl) ow nx).f:=by
   refine EnvF.ext (λs=> ?_) (λi=> ?_);·simp only[upd,St.f,ai,D6]
   ·simp only[upd,St.f];exact bX _ _ _
  rw[e1];exact h1
theorem J.dl (a:α){args:Array Operand}{tys:Array TypeId}{t2:TypeId}{fi:Bool}{si:SV}{pi:PV}(ho:o.op= .call { callee:= .builtin .delete,args:=args,argTypes:=tys })(ha:args.toList=[x,i])(ht:tys.toList=[t,t2])(hg:wants ops (St.mk sl ow nx).f o=some true)(hd:o.dst=none)(hx:(St.mk sl ow nx).f.get x=some (.ref q))(hq:(St.mk sl ow nx).f.own q=some (.mp fr b (l.map λp=>(ek p.1,en p.2))))
  (hi:(St.mk sl ow nx).f.get i=some si) (hp:si.ff=some (fi,pi)) (hu:K.P.underlying t=some (.map kt et)) (hk:KeyK K.P kt ek) (hpk: ∀w Z v,Rep w Z v pi->v=ek a)
  (k:J K ops false rest ⟨sl,(q,some (.mp fr none ((dlA l a).map λp=>(ek p.1,en p.2))))::ow,nx⟩ R):J K ops false (o::rest) ⟨sl,ow,nx⟩ R:=by
 refine⟨TO.step hg ?_ k.out⟩;intro A w next Q hr hn
 have ea:args= #[x,i]:=(by rw[<-EQ (xs:=args),ha]);have et':tys= #[t,t2]:=(by rw[<-EQ (xs:=tys),ht]);subst ea et';obtain⟨φ,hφ⟩:=hr;obtain⟨hrx,_⟩:=ae hφ hx;have hrx:A.eval x=φ q:=hrx;have hri:=bC hφ hi hp;obtain⟨g,es,clock,hvm,hb,hl,hbn,hnd,hone,_⟩:=hφ.own q _ hq;have hrun:=vO (l:=l) hk hu hb (li hl) a o.type t2;obtain⟨w',hw'⟩: ∃w':World,w'= { w with heap:=w.heap.setIfInBounds g (match fiA l a with
   |some j=> .map (es.eraseIdxIfInBounds j) clock
   |none=> .map es clock) }:=⟨_,rfl⟩
 have hrun':(execOp A.eval o).run K.P w= .ok (.value (.tuple #[])) w':=by
  simp only[execOp,ho,resolve,invoke,builtin,DK,Dr,DA,GY,DZ,GG,hrx,hvm,hpk _ _ _ hri,hrun];rw[hw']<;>rfl
 unfold Oper.wp;rw[hrun'];have hput:A.put o.dst (.tuple #[])=A:=(by rw[hd];rfl);show next (A.put o.dst (.tuple #[])) w'
 rw[hput];have hglt:=(DR.1 hb).1;have hnew:w'.heap[g]? =some (match fiA l a with
   |some j=> .map (es.eraseIdxIfInBounds j) clock
   |none=> .map es clock):=by
  rw[hw'];simp[hglt]
 have hoth: ∀b',b'<w.heap.size->¬VB (φ q) b'->w'.heap[b']? =w.heap[b']? :=by
  intro b' _ hnv;have hne:g≠b':=(by rintro rfl;exact hnv (.inl (by rw[hvm];rfl)));rw[hw'];simp[hne]
 refine hn _ _ ⟨φ,?_⟩;have:=hφ.turn (w':=w') hq (by rw[hw']) (by rw[hw']) (by rw[hw']) (by rw[hw'];simp) hoth (c':= .mp fr none ((dlA l a).map λp=>(ek p.1,en p.2))) λhz=>by
  have hl':L2 (λ(e:MapEntry) p=>e.key=p.1/\Rep w' (Zf K (St.mk sl ow nx).f φ fr) e.val p.2) es.toList (l.map λp=>(ek p.1,en p.2)):=hl.imp λ_ _ h=>⟨h.1,h.2.mono (hz fr)⟩;unfold dlA;cases hfi:fiA l a with
  |none=>
   rw[hfi]at hnew;exact⟨g,_,_,hvm,hnew,hl',hbn,hnd,hone,.inl Y⟩
  |some j=>
   rw[hfi]at hnew;have htl:(es.eraseIdxIfInBounds j).toList=es.toList.eraseIdx j:=(by simp);refine⟨g,_,_,hvm,hnew,?_,λe he=> ?_,?_,λp hp=> ?_,.inl Y⟩
   ·rw[htl,ip];exact hl'.erase j
   ·rw[htl]at he;exact hbn e (H5 he)
   ·rw[htl,ip];exact hnd.sublist (List.eraseIdx_sublist _ _)
   ·rw[ip]at hp;exact hone p (H5 hp)
 have e:(St.mk sl ((q,some (.mp fr none ((dlA l a).map λp=>(ek p.1,en p.2))))::ow) nx).f=⟨(St.mk sl ow nx).f.slot,λj=>if j=q then some (.mp fr none ((dlA l a).map λp=>(ek p.1,en p.2)))else(St.mk sl ow nx).f.own j⟩:=by
  refine EnvF.ext (λ_=>rfl) λj=> ?_;simp only[St.f,ai];by_cases e:q=j;·subst e;simp
  ·rw[D2 e,D2 (Ne.symm e)]
 show RelW K (St.mk sl ((q,some (.mp fr none ((dlA l a).map λp=>(ek p.1,en p.2))))::ow) nx).f _ φ _ w';rw[e];exact this
end
section
variable {K:Ctx}{sl:List (Nat×SV)}{ow:List (Nat×Option Own)}{nx:Nat}{a:Act}{w:World}
theorem Rel.meltM {qc q:Nat}{e:TypeId}{sz:Nat}{frc fr:Bool}{b:Option (List Nat×Nat)}{L:List (Value×List (List PV))}(ml:List (Value×Value×List (List PV)))(hin: ∀p∈ml,p.2∈L)(hM: ∀b,¬K.M b)(hc:(St.mk sl ow nx).f.own qc=some (.mp frc b (ml.map λp=>(p.1,.raw p.2.1))))(ho:(St.mk sl ow nx).f.own q=some (.fam e sz fr L))(hne:Nat.beq q qc=false)(h:Rel K ⟨sl,ow,nx⟩ a w):
  Rel K ⟨sl,(qc,some (.mp (frc&&fr) b (ml.map λp=>(p.1,.sl p.2.2))))::(q,none)::ow,nx⟩ a w:=by
 obtain⟨φ,hφ⟩:=h;have hne':q≠qc:=λe=>(by subst e;simp at hne);obtain⟨hv,hl,hdis⟩:=hφ.own q _ ho;have hown': ∀i c,(St.mk sl ((q,none)::ow) nx).f.own i=some c->i≠q/\(St.mk sl ow nx).f.own i=some c:=by
  intro i c hq;simp only[St.f,ai]at hq;by_cases e:q=i;·rw[D4 e]at hq;cases hq
  ·rw[D2 e]at hq;exact⟨Ne.symm e,hq⟩
 have hZ: ∀f b,Zf K (St.mk sl ow nx).f φ f b->Zf K (St.mk sl ((q,none)::ow) nx).f φ f b:=
  λf b hb=>⟨⟨hb.1.1,λi c hq=>hb.1.2 i c (hown' i c hq).2⟩,hb.2⟩
 have h1:RelW K (St.mk sl ((q,none)::ow) nx).f (· <nx) φ a w:=by
  refine⟨hφ.df,hφ.sz,hφ.old,hφ.kept,?_,?_,?_,?_,?_,hφ.sin⟩
  ·intro i c hq;exact(hφ.own i c (hown' i c hq).2).mono (λ_ _=>rfl) λf b hb _=>⟨hZ f b hb,rfl⟩
  ·intro i c g hq;exact hφ.mine i c g (hown' i c hq).2
  ·intro i c hq;exact hφ.inU i c (hown' i c hq).2
  ·intro i i' c c' g hq hq';exact hφ.dis i i' c c' g (hown' i c hq).2 (hown' i' c' hq').2
  ·intro t sv h;obtain⟨v,hv,hr⟩:=hφ.slot t sv h;exact⟨v,hv,hr.mono (hφ.sin t sv h) (λf b hb _=>⟨hZ f b hb,rfl⟩) (λ_ _=>rfl)⟩
 have hfz: ∀p∈L,Rep w (Zf K (St.mk sl ((q,none)::ow) nx).f φ fr) p.1 (.sl p.2):=by
  intro p hp;obtain⟨xs,hwn,hxl,h2,h3⟩:=hl p hp;have hl':L2 (Rep w (Zf K (St.mk sl ((q,none)::ow) nx).f φ fr)) xs p.2.flatten:=Rep.monoL (λb hb _=>⟨hZ fr b hb,rfl⟩) hxl;have hcell:=λg hg=>hwn.cells (g:=g) hg;have hlt:=hwn.lt;obtain⟨v,rows⟩:=p;rcases hwn.2 with ⟨hv0,hn⟩|⟨g,cap,cur,hv0,_,hgc,hnc,hcm,_⟩
  ·simp only at hv0 hn;rw[hv0];have:rows=[]:=DP hn;subst this;exact .nilsl
  ·simp only at hv0 hcell hlt hl' h2 h3 hgc hnc hcm⊢;have hvbp:VB (φ q) g:=(by rw[hv];exact ri.2 ⟨_,hp,by simp only[hv0];rfl⟩);have hm:=hφ.mine q _ g ho hvbp;have hge:K.w0.heap.size<=g:=hm.resolve_right (hM g);rw[hv0]at hcell hlt⊢;refine .sl g 0 cap sz rows xs ⟨⟨.inl hge,λi c hq hvq=> ?_⟩,λ_=>K.hF _ hge⟩ (hlt g Y).2 h2 h3 (λj v hj=> ?_) hnc hcm hl'
   ·obtain⟨hne,hq'⟩:=hown' i c hq;exact hne (hφ.dis i q c _ g hq' ho hvq hvbp)
   ·have:=hcell g Y j v hj;rw[bD]at this;exact bY hgc this
 have hc':(St.mk sl ((q,none)::ow) nx).f.own qc=some (.mp frc b (ml.map λp=>(p.1,.raw p.2.1))):=by
  simp only[St.f,ai];rw[D2 hne'];exact hc
 refine⟨φ,h1.reown hc' ?_⟩;obtain⟨g',es,clock,hvm,hb,hle,hbn,hnd,hone,hbb⟩:=h1.own qc _ hc';refine⟨g',es,clock,hvm,hb,?_,hbn,hnd,λp hp=> ?_,hbb⟩
 ·refine L2.ofGet (by simpa using hle.length) λi v p hi hp=> ?_;rw[DE]at hp;obtain⟨pl,hpl,rfl⟩:=DY.1 hp;obtain⟨p',hp',hk,hr⟩:=hle.getl hi;rw[DE,hpl]at hp';cases hp';refine⟨hk,?_⟩;have e:=xw hr;show Rep w _ v.val _;rw[e];exact(hfz _ (hin _ (D7 hpl))).weak (by simp)
 ·obtain⟨pl,_,rfl⟩:=DF.1 hp;rfl
end
end Go.Proofs.YtopcjbahjjhdmaaGreat
