/- The texts CoreP, CoreR, CoreS, CoreT, CoreU, CoreV, CoreW, CoreX, CoreY of the workplace, joined. -/
import Derived.Test.YtopcjbahjjhdmaaGreatB2
import Derived.Laws.StructEq
import Derived.Scope
import Derived.Deep.OwnRows
namespace Go.Proofs.YtopcjbahjjhdmaaGreat
open Go Go.RowKit
set_option linter.unusedVariables false
section
variable {K:Ctx}{x y:Code}{E:St}{Q:Exit->St->Prop}
theorem T.ct2 {f b:Bool}{o:Operand}(hc:E.f.get o=some (.val f (.bool b)))(hb:b=true)(ht:T K x E Q):T K (.cond o x y) E Q:= .cond hc (λ_=>ht) (λh=>by rw[hb]at h;cases h)
theorem T.cf2 {f b:Bool}{o:Operand}(hc:E.f.get o=some (.val f (.bool b)))(hb:b=false)(hf:T K y E Q):T K (.cond o x y) E Q:= .cond hc (λh=>by rw[hb]at h;cases h) (λ_=>hf)
end
theorem J.lo {K:Ctx}{ops:Array Oper}{dr:Bool}{o:Oper}{rest:List Oper}{sl:List (Nat×SV)}{ow:List (Nat×Option Own)}{nx:Nat}{R:St->Prop}{d:Nat}{t:TypeId}{x:Operand}{q i off st:Nat}{e:TypeId}{fr:Bool}{rows:List (List PV)}{r:List PV}{p:PV}
  (ho:o.op= .load t x) (hg:wants ops (St.mk sl ow nx).f o=some true) (hd:o.dst=some d) (hlt:K.can d=true) (hx:(St.mk sl ow nx).f.get x=some (.optr q i off st)) (hq:(St.mk sl ow nx).f.own q=some (.sl e st fr rows))
  (hr:rows[i]? =some r) (hp:iR K.P t (r.drop off)=some p) (k:J K ops dr rest ⟨(d,mkv fr p)::sl,ow,nx⟩ R):J K ops dr (o::rest) ⟨sl,ow,nx⟩ R:=
 .does hg hd hlt (.ev (by simp[ev,ho,hx,EnvF.cellsAt,hq,Own.at_,hr,hp])) k
theorem J.cc {K:Ctx}{ops:Array Oper}{dr:Bool}{o:Oper}{rest:List Oper}{sl:List (Nat×SV)}{ow:List (Nat×Option Own)}{nx:Nat}{R:St->Prop}{d:Nat}
  {x:Operand} {args:Array Operand} {tys:Array TypeId} {f:FuncId} {first caps ps ps':List PV} {al fx:Bool} {res:List RV} (ho:o.op= .call { callee:= .value x,args:=args,argTypes:=tys }) (hg:wants ops (St.mk sl ow nx).f o=some true) (hd:o.dst=some d) (hlt:K.can d=true)
  (hx:(St.mk sl ow nx).f.get x=some (.val fx (.fn (.func f) first caps))) (hspec:Spec K.P f al ps' res) (ha:cz (St.mk sl ow nx).f al args.toList=some ps) (he:first++ps++caps=ps')
  (q:J K ops dr rest ⟨(d,RV.one (!al) nx res)::sl,c6 nx (RV.owns (!al) res) ow,nx+(RV.owns (!al) res).length⟩ R):J K ops dr (o::rest) ⟨sl,ow,nx⟩ R:=
 .c ho hg hd hlt hx (he▸hspec) ha q
def ke (P:Program):Nat->List Field->Bool
 |_,[]=>true
 |k,f::fs=>f.name != "_" &&Nat.beq f.offset k&&(match P.underlying f.type with|some (.int _)=>true|_=>false)&&ke P (k+1) fs
theorem pz {P:Program}(d:Nat)(w:World)(as bs:List Int): ∀(fs:List Field) (k:Nat),ke P k fs=true->as.length=k+fs.length->bs.length=k+fs.length->
  (Op.eqFields (d+1) (as.map (Value.int .i64)).toArray (bs.map (Value.int .i64)).toArray fs).run P w= .ok (decide (as.drop k=bs.drop k)) w
 | [],k,_,ha,hb=>by
  simp only[Fg,G3]at ha hb;rw[Fb (by omega),Fb (by omega)];rfl
 |f::fs,k,h,ha,hb=>by
  simp only[ke,EL,bne_iff_ne]at h;simp only[El]at ha hb;obtain⟨⟨⟨h1,h2⟩,h3⟩,h4⟩:=h;have h2:=FT h2;have hk1:k<as.length:=(by omega);have hk2:k<bs.length:=(by omega);have ih:=pz d w as bs fs (k+1) h4 (by omega) (by omega);split at h3
  ·rename_i kk hu;have hagg:(isAgg f.type).run P w= .ok false w:=mQ hu w;have hp: ∀(l:List Int) (h:k<l.length),(part f.type (l.map (Value.int .i64)).toArray f.offset).run P w= .ok (.int .i64 l[k]) w:=by
    intro l hl;simp[part,hagg,h2,hl]
   simp only[Op.eqFields,E6 h1,EM,hp as hk1,hp bs hk2,EG,run_equalIn_int w d f.type .i64 kk _ _ hu];have e3:(as.drop k=bs.drop k)↔(as[k]=bs[k]/\as.drop (k+1)=bs.drop (k+1)):=by
    rw[EP hk1,EP hk2,List.cons.injEq]
   by_cases e:as[k]=bs[k];·simp[e,ih,e3]
   ·simp[e,e3]
  ·cases h3
theorem un {w:World}{Z:Nat->Prop}: ∀{as:List Int} {vs:List Value},L2 (Rep w Z) vs (as.map (PV.int .i64))->vs=as.map (Value.int .i64)
 | [],_,.nil=>rfl
 |a::as,_,.cons h hr=>by
  cases h;rw[un hr];rfl
theorem J.se {K:Ctx}{ops:Array Oper}{dr:Bool}{o:Oper}{rest:List Oper}{sl:List (Nat×SV)}{ow:List (Nat×Option Own)}{nx:Nat}{R:St->Prop}{d:Nat}{op:BinOp}{t yt:TypeId}{x y:Operand}{f1 f2:Bool}{cs ds:List PV}(as bs:List Int)
  (ho:o.op= .binOp op t x y yt) (hg:wants ops (St.mk sl ow nx).f o=some true) (hd:o.dst=some d) (hlt:K.can d=true) (hx:(St.mk sl ow nx).f.get x=some (.val f1 (.agg cs))) (hy:(St.mk sl ow nx).f.get y=some (.val f2 (.agg ds)))
  (hc:cs=as.map (PV.int .i64)) (hd2:ds=bs.map (PV.int .i64)) (hS:K.P.underlying t=some (.struct (K.P.fieldsOf t))) (hp:K.P.stoodInHeld t=false) (hG:K.P.eqGuardType K.P.depth t=false) (hi:ke K.P 0 (K.P.fieldsOf t).toList=true) (hl:as.length=(K.P.fieldsOf t).toList.length) (hl2:bs.length=(K.P.fieldsOf t).toList.length) (hop:op= .eql∨op= .neq)
  (k:J K ops dr rest ⟨(d,.val true (.bool (match op with| .eql=>decide (as=bs)|_=> !decide (as=bs))))::sl,ow,nx⟩ R):J K ops dr (o::rest) ⟨sl,ow,nx⟩ R:=by
 refine .does hg hd hlt (.gen (xs:=[x,y]) (l:=[.agg cs,.agg ds]) ?_ ?_ ?_) k;·rw[ho];simp[Op.operands]
 ·simp[dB,hx,hy,SV.ff]
 ·intro a w hr;subst hc hd2;cases hr with
  |cons h1 hr=>
  cases hr with
  |cons h2 _=>
  generalize hv1:a.eval x=v1 at h1;generalize hv2:a.eval y=v2 at h2;cases h1 with
  |agg us _ hu hu1=>
  cases h2 with
  |agg ws _ hw hw1=>
  obtain rfl:=un hu;obtain rfl:=un hw;have he:(Op.equalIn 10000 t (.agg (as.map (Value.int .i64)).toArray) (.agg (bs.map (Value.int .i64)).toArray)).run K.P w= .ok (decide (as=bs)) w:=by
   rw[show(10000:Nat)=9998+1+1 from Y,run_equalIn_agg w _ t _ _ hS hp];have:=pz (P:=K.P) 9998 w as bs (K.P.fieldsOf t).toList 0 hi (by omega) (by omega);simpa using this
  have hge:=run_eqGuard_agg (P:=K.P) w op t x y (as.map (Value.int .i64)).toArray (bs.map (Value.int .i64)).toArray hG;rcases hop with rfl|rfl;·exact⟨_,by simp only[execOp,ho,hv1,hv2,EM,hge,EG,run_eql_struct,he];rfl,λZ=> .bool _⟩
  ·exact⟨_,by simp only[execOp,ho,hv1,hv2,EM,hge,EG,run_neq_struct,he];rfl,λZ=> .bool _⟩
theorem DB {α:Type}{enc:α->List PV}{l:List α}{x:α}{p:List PV}(h:enc x=p):l.map enc++[p]=(l++[x]).map enc:=by simp[h]
theorem cy {α:Type}{r:List α}{n:Nat}(h:r.length=n): ∀x∈[r],x.length=n:=by
 intro x hx;simp at hx;subst hx;exact h
theorem ax {α:Type}{enc:α->List PV}{l:List α}{i:Nat}(h:i<l.length):(l.map enc)[((i:Nat):Int).toNat]? =some (enc l[i]):=by simp[h]
theorem T.listI {K:Ctx}{c:Code}{Q:Exit->St->Prop}{α:Type}(l:List α)(Inv:List α->Prop)(Es:Nat->List α->List α->St)(hg: ∀l E,¬Q (.goto l) E)(h0:Inv [])
  (step: ∀n pre x post,l=pre++x::post->n=pre.length->Inv pre->(Inv (pre++[x])->T K (.loop c) (Es (n+1) (pre++[x]) post) Q)->T K c (Es n pre (x::post)) (lp K c Q))
  (fin:Inv l->T K c (Es l.length l []) (lp K c Q)):T K (.loop c) (Es 0 [] l) Q:=by
 have key: ∀post pre n,l=pre++post->n=pre.length->Inv pre->T K (.loop c) (Es n pre post) Q:=by
  intro post
  induction post with
  |nil=>
   intro pre n h hn hi;rw[FU]at h;subst h hn;exact .loop hg (fin hi)
  |cons x post ih=>
   intro pre n h hn hi;exact .loop hg (step n pre x post h hn hi λhi2=>ih (pre++[x]) (n+1) (by simp[h]) (by simp[hn]) hi2)
 exact key l [] 0 Y Y h0
theorem Rel.flat {K:Ctx}{sl:List (Nat×SV)}{ow:List (Nat×Option Own)}{nx:Nat}{o:Nat}{e:TypeId}{sz:Nat}{fr:Bool}{rows:List (List PV)}(ho:(St.mk sl ow nx).f.own o=some (.sl e sz fr rows))(hf: ∀r∈rows,∀p∈r,p.flat=true)(a:Act)(w:World)(h:Rel K ⟨sl,ow,nx⟩ a w):
  Rel K ⟨sl,(o,some (.sl e sz true rows))::ow,nx⟩ a w:=by
 obtain⟨φ,hφ⟩:=h;have hown': ∀q c,(St.mk sl ((o,some (.sl e sz true rows))::ow) nx).f.own q=some c->(q=o/\c= .sl e sz true rows)∨(q≠o/\(St.mk sl ow nx).f.own q=some c):=by
  intro q c hq;simp only[St.f,ak]at hq;by_cases e:o=q;·rw[E6 e]at hq;exact .inl ⟨e.symm,(E7 hq).symm⟩
  ·rw[E4 e]at hq;exact .inr ⟨Ne.symm e,hq⟩
 have hdom: ∀q c,(St.mk sl ((o,some (.sl e sz true rows))::ow) nx).f.own q=some c->∃c',(St.mk sl ow nx).f.own q=some c':=by
  intro q c hq;rcases hown' q c hq with ⟨rfl,_⟩|⟨_,h⟩;·exact⟨_,ho⟩
  ·exact⟨_,h⟩
 have hZ: ∀f b,Zf K (St.mk sl ow nx).f φ f b->Zf K (St.mk sl ((o,some (.sl e sz true rows))::ow) nx).f φ f b:=
  λf b hb=>⟨⟨hb.1.1,λq c hq=>by obtain⟨c',hq'⟩:=hdom q c hq;exact hb.1.2 q c' hq'⟩,hb.2⟩
 refine⟨φ,hφ.df,hφ.sz,hφ.old,hφ.kept,?_,?_,?_,?_,?_,?_⟩
 ·intro q c hq;rcases hown' q c hq with ⟨rfl,rfl⟩|⟨_,h⟩
  ·obtain⟨xs,hwn,hl,h1,h2⟩:=hφ.own q _ ho;refine⟨xs,hwn,?_,h1,h2⟩;have: ∀(xs:List Value) (ps:List PV),L2 (Rep w (Zf K (St.mk sl ow nx).f φ fr)) xs ps->(∀p∈ps,p.flat=true)->L2 (Rep w (Zf K (St.mk sl ((q,some (.sl e sz true rows))::ow) nx).f φ true)) xs ps:=by
    intro xs ps h
    induction h with
    |nil=>intro _;exact .nil
    |cons h _ ih=>intro hp;exact .cons (h.flat (hp _ (.head _))) (ih λp hm=>hp p (.tail _ hm))
   exact this _ _ hl λp hp=>by
    obtain⟨r,hr,hp⟩:=Gq.1 hp;exact hf r hr p hp
  ·exact(hφ.own q c h).mono (λ_ _=>rfl) λf b hb _=>⟨hZ f b hb,rfl⟩
 ·intro q c g hq;obtain⟨c',hq'⟩:=hdom q c hq;exact hφ.mine q c' g hq'
 ·intro q c hq;obtain⟨c',hq'⟩:=hdom q c hq;exact hφ.inU q c' hq'
 ·intro q q' c c' g hq hq';obtain⟨c1,hq1⟩:=hdom q c hq;obtain⟨c2,hq2⟩:=hdom q' c' hq';exact hφ.dis q q' c1 c2 g hq1 hq2
 ·intro t sv hsv;obtain⟨v,hv,hr⟩:=hφ.slot t sv hsv;exact⟨v,hv,hr.mono (hφ.sin t sv hsv) (λf b hb _=>⟨hZ f b hb,rfl⟩) (λ_ _=>rfl)⟩
 ·exact hφ.sin
theorem J.s1 {K:Ctx}{ops:Array Oper}{dr:Bool}{o:Oper}{rest:List Oper}{sl:List (Nat×SV)}{ow:List (Nat×Option Own)}{nx:Nat}{R:St->Prop}{d:Nat}{α:Type}{enc:α->List PV}{l:List α}{t:TypeId}{x y:Operand}{sx:SV}{fr fh:Bool}{e:TypeId}{inf:TypeInfo}{h:Int}{kh:IntKind}(n:Nat)
  (ho:o.op= .slice t x none (some y) none) (hg:wants ops (St.mk sl ow nx).f o=some true) (hd:o.dst=some d) (hlt:K.can d=true)
  (hx:(St.mk sl ow nx).f.get x=some sx) (hr:sx.ff=some (fr,.sl (l.map enc))) (hu:K.P.underlying t=some (.slice e)) (hinf:K.P.info? e=some inf) (hy:(St.mk sl ow nx).f.get y=some (.val fh (.int kh h)))
  (h3: ∀z,(enc z).length=inf.size) (hh:h=(n:Nat)) (hn:n<=l.length)
  (q:J K ops dr rest ⟨(d,.val fr (.sl ((l.take n).map enc)))::sl,ow,nx⟩ R):J K ops dr (o::rest) ⟨sl,ow,nx⟩ R:=by
 refine J.s (l:=0) (h:=h) (fl:=true) (kl:= .i64) ho hg hd hlt hx hr hu hinf (.inl ⟨rfl,rfl⟩) (.inr ⟨y,rfl,hy⟩) (by omega) (by omega) (by simp;omega) (λr hr=> ?_) ?_
 ·obtain⟨z,_,rfl⟩:=EH.1 hr;exact h3 z
 ·rw[hh];simpa[Gp]using q
def only (E':St)(e:Exit)(E:St):Prop:=e= .normal/\∃keep os,dup (iu E.f os)=false/\lD E keep os=E'
theorem T.mid {K:Ctx}{x y:Code}{E:St}{Q:Exit->St->Prop}(E':St)(hx:T K x E (only E'))(hy:T K y E' Q):T K (.seq x y) E Q:=by
 refine .seq (hx.mono ?_);rintro e E2 ⟨rfl,keep,os,hd,rfl⟩;exact T.canon hd hy
theorem iI: ∀(ps pre cs:List PV),cs.length=ps.length->putCells (pre++cs) pre.length ps=pre++ps
 | [],pre,cs,h=>by
  have:cs=[]:=EQ h;simp[putCells,this]
 |p::ps,pre,[],h=>by simp at h
 |p::ps,pre,c::cs,h=>by
  simp only[putCells];have e:(pre++c::cs).set pre.length p=(pre++[p])++cs:=(by simp);rw[e];have:=iI ps (pre++[p]) cs (by simpa using h);simp only[EZ,FY]at this;rw[this];simp
theorem J.w1 {K:Ctx}{ops:Array Oper}{o:Oper}{rest:List Oper}{sl:List (Nat×SV)}{ow:List (Nat×Option Own)}{nx:Nat}{R:St->Prop}{α:Type}{enc:α->List PV}{l:List α}{z:α}{t e:TypeId}{x y:Operand}{q i st:Nat}{fr:Bool}{sy:SV}{fp:Bool}{p:PV}{inf:TypeInfo}
  (ho:o.op= .store t x y) (hg:wants ops (St.mk sl ow nx).f o=some true) (hd:o.dst=none) (hx:(St.mk sl ow nx).f.get x=some (.optr q i 0 st)) (hq:(St.mk sl ow nx).f.own q=some (.sl e st fr (l.map enc))) (hy:(St.mk sl ow nx).f.get y=some sy) (hp:sy.ff=some (fp,p))
  (hi:K.P.info? t=some inf) (hs:p.cells.length=inf.size) (hst:inf.size=st) (hz:p.cells=enc z) (hl: ∀y,(enc y).length=st) (hlt:i<l.length) (k:J K ops false rest ⟨sl,(q,some (.sl e st (fr&&fp) ((l.set i z).map enc)))::ow,nx⟩ R):J K ops false (o::rest) ⟨sl,ow,nx⟩ R:=by
 refine J.w ho hg hd hx hq hy hp hi hs ?_ k;have h1:Nat.beq st st=true:=Hq st;have hzl:(enc z).length=st:=hl z;have h2:Nat.ble (0+p.cells.length) (enc l[i]).length=true:=(by simp[hz,hl]);have h3:putCells (enc l[i]) 0 p.cells=enc z:=by
  have:=iI p.cells [] (enc l[i]) (by simp[hz,hl]);rw[hz]at this⊢;simpa using this
 have h4:(l.map enc)[i]? =some (enc l[i]):=(by simp[hlt]);simp only[Own.put,h1,h4,h2,h3,Gy]
theorem J.al {K:Ctx}{ops:Array Oper}{dr:Bool}{o:Oper}{rest:List Oper}{sl:List (Nat×SV)}{ow:List (Nat×Option Own)}{nx:Nat}{R:St->Prop}{d:Nat}{t:TypeId}{ps:List PV}{inf:TypeInfo}{z:Value}
  (ho:o.op= .alloc t) (hg:wants ops (St.mk sl ow nx).f o=some true) (hd:o.dst=some d) (hlt:K.can d=true) (hi:K.P.info? t=some inf) (hz:inf.zero=some z) (hps:gJ z.cells.toList=some ps)
  (q:J K ops dr rest ⟨(d,.optr nx 0 0 0)::sl,(nx,some (.box true ps))::ow,nx+1⟩ R):J K ops dr (o::rest) ⟨sl,ow,nx⟩ R:=
 .does hg hd hlt (.alloc ho hi hz hps) q
theorem J.a1 {K:Ctx}{ops:Array Oper}{o:Oper}{rest:List Oper}{sl:List (Nat×SV)}{ow:List (Nat×Option Own)}{nx:Nat}{R:St->Prop}{d:Nat}{args:Array Operand}{tys:Array TypeId}{s y:Operand}{t e:TypeId}{q sz:Nat}{fr fy:Bool}{α:Type}{enc:α->List PV}{l:List α}{x:α}{r:List PV}{sy:SV}{inf:TypeInfo}{z:Value}{B:Nat}
  (ho:o.op= .call { callee:= .builtin .append,args:=args,argTypes:=tys }) (ha:args.toList=[s,y]) (ht:tys.toList=[t,t]) (hg:wants ops (St.mk sl ow nx).f o=some true) (hd:o.dst=some d) (hlt:K.can d=true)
  (hs:(St.mk sl ow nx).f.get s=some (.ref q)) (hq:(St.mk sl ow nx).f.own q=some (.sl e sz fr (l.map enc))) (hy:(St.mk sl ow nx).f.get y=some sy) (hp:(St.mk sl ow nx).f.pvf sy=some (fy,.sl [r]))
  (hu:K.P.underlying t=some (.slice e)) (hi:K.P.info? e=some inf) (hsz:inf.size=sz) (hz:inf.zero=some z) (hzs:z.cells.size=sz) (h0:Nat.blt 0 sz=true) (hb1:Nat.ble 1 inf.bytes=true) (hr:r.length=sz) (hB:inf.bytes=B)
  (hx:r=enc x) (hby:(l.length+1)*B<=140737488355328)
  (k:J K ops false rest ⟨(d,.ref nx)::sl,(nx,some (.sl e sz (fr&&fy) ((l++[x]).map enc)))::(q,none)::ow,nx+1⟩ R):J K ops false (o::rest) ⟨sl,ow,nx⟩ R:=by
 have h:=J.a ho ha ht hg hd hlt hs hq hy hp hu hi hsz hz hzs h0 hb1 (cy hr) (by rw[hB];simpa using hby) (rest:=rest) (R:=R);rw[DB hx.symm]at h;exact h k
section
variable {K:Ctx}{ops:Array Oper}{o:Oper}{rest:List Oper}{sl:List (Nat×SV)}{ow:List (Nat×Option Own)}{nx:Nat}{R:St->Prop}{d:Nat}{args:Array Operand}{tys:Array TypeId}{s y:Operand}{t e:TypeId}{q:Nat}{fr fy:Bool}{r:List PV}{sy:SV}{inf:TypeInfo}{z:Value}
theorem J.aI {l:List Int}{x:Int}
  (ho:o.op= .call { callee:= .builtin .append,args:=args,argTypes:=tys }) (ha:args.toList=[s,y]) (ht:tys.toList=[t,t]) (hg:wants ops (St.mk sl ow nx).f o=some true) (hd:o.dst=some d) (hlt:K.can d=true)
  (hs:(St.mk sl ow nx).f.get s=some (.ref q)) (hq:(St.mk sl ow nx).f.own q=some (.sl e 1 fr (l.map cI))) (hy:(St.mk sl ow nx).f.get y=some sy) (hp:(St.mk sl ow nx).f.pvf sy=some (fy,.sl [r]))
  (hu:K.P.underlying t=some (.slice e)) (hi:K.P.info? e=some inf) (hsz:inf.size=1) (hz:inf.zero=some z) (hzs:z.cells.size=1) (hb1:Nat.ble 1 inf.bytes=true) (hr:r.length=1) (hB:inf.bytes=8)
  (hx:r=cI x) (hby:(l.length+1)*8<=140737488355328)
  (k:J K ops false rest ⟨(d,.ref nx)::sl,(nx,some (.sl e 1 (fr&&fy) ((l++[x]).map cI)))::(q,none)::ow,nx+1⟩ R):J K ops false (o::rest) ⟨sl,ow,nx⟩ R:=
 J.a1 ho ha ht hg hd hlt hs hq hy hp hu hi hsz hz hzs Y hb1 hr hB hx hby k
theorem J.aR {l:List (Int×Int)}{a b:Int}
  (ho:o.op= .call { callee:= .builtin .append,args:=args,argTypes:=tys }) (ha:args.toList=[s,y]) (ht:tys.toList=[t,t]) (hg:wants ops (St.mk sl ow nx).f o=some true) (hd:o.dst=some d) (hlt:K.can d=true)
  (hs:(St.mk sl ow nx).f.get s=some (.ref q)) (hq:(St.mk sl ow nx).f.own q=some (.sl e 2 fr (l.map cR))) (hy:(St.mk sl ow nx).f.get y=some sy) (hp:(St.mk sl ow nx).f.pvf sy=some (fy,.sl [r]))
  (hu:K.P.underlying t=some (.slice e)) (hi:K.P.info? e=some inf) (hsz:inf.size=2) (hz:inf.zero=some z) (hzs:z.cells.size=2) (hb1:Nat.ble 1 inf.bytes=true) (hr:r.length=2) (hB:inf.bytes=16)
  (hx:r=cR (a,b)) (hby:(l.length+1)*16<=140737488355328)
  (k:J K ops false rest ⟨(d,.ref nx)::sl,(nx,some (.sl e 2 (fr&&fy) ((l++[(a,b)]).map cR)))::(q,none)::ow,nx+1⟩ R):J K ops false (o::rest) ⟨sl,ow,nx⟩ R:=
 J.a1 ho ha ht hg hd hlt hs hq hy hp hu hi hsz hz hzs Y hb1 hr hB hx hby k
theorem J.aD {l:List (List (Int×Int))}{x:List (Int×Int)}
  (ho:o.op= .call { callee:= .builtin .append,args:=args,argTypes:=tys }) (ha:args.toList=[s,y]) (ht:tys.toList=[t,t]) (hg:wants ops (St.mk sl ow nx).f o=some true) (hd:o.dst=some d) (hlt:K.can d=true)
  (hs:(St.mk sl ow nx).f.get s=some (.ref q)) (hq:(St.mk sl ow nx).f.own q=some (.sl e 1 fr (l.map cD))) (hy:(St.mk sl ow nx).f.get y=some sy) (hp:(St.mk sl ow nx).f.pvf sy=some (fy,.sl [r]))
  (hu:K.P.underlying t=some (.slice e)) (hi:K.P.info? e=some inf) (hsz:inf.size=1) (hz:inf.zero=some z) (hzs:z.cells.size=1) (hb1:Nat.ble 1 inf.bytes=true) (hr:r.length=1) (hB:inf.bytes=24)
  (hx:r=cD x) (hby:(l.length+1)*24<=140737488355328)
  (k:J K ops false rest ⟨(d,.ref nx)::sl,(nx,some (.sl e 1 (fr&&fy) ((l++[x]).map cD)))::(q,none)::ow,nx+1⟩ R):J K ops false (o::rest) ⟨sl,ow,nx⟩ R:=
 J.a1 ho ha ht hg hd hlt hs hq hy hp hu hi hsz hz hzs Y hb1 hr hB hx hby k
end
theorem J.am {K:Ctx}{ops:Array Oper}{o:Oper}{rest:List Oper}{sl:List (Nat×SV)}{ow:List (Nat×Option Own)}{nx:Nat}{R:St->Prop}{d:Nat}{args:Array Operand}{tys:Array TypeId}{s y:Operand}{t e:TypeId}{q sz:Nat}{fr fy:Bool}{α:Type}{enc:α->List PV}{l l2:List α}{sy:SV}{inf:TypeInfo}{z:Value}{B:Nat}
  (ho:o.op= .call { callee:= .builtin .append,args:=args,argTypes:=tys }) (ha:args.toList=[s,y]) (ht:tys.toList=[t,t]) (hg:wants ops (St.mk sl ow nx).f o=some true) (hd:o.dst=some d) (hlt:K.can d=true)
  (hs:(St.mk sl ow nx).f.get s=some (.ref q)) (hq:(St.mk sl ow nx).f.own q=some (.sl e sz fr (l.map enc))) (hy:(St.mk sl ow nx).f.get y=some sy) (hp:(St.mk sl ow nx).f.pvf sy=some (fy,.sl (l2.map enc)))
  (hu:K.P.underlying t=some (.slice e)) (hi:K.P.info? e=some inf) (hsz:inf.size=sz) (hz:inf.zero=some z) (hzs:z.cells.size=sz) (h0:Nat.blt 0 sz=true) (hb1:Nat.ble 1 inf.bytes=true) (hr: ∀x,(enc x).length=sz) (hB:inf.bytes=B)
  (hby:(l.length+l2.length)*B<=140737488355328)
  (k:J K ops false rest ⟨(d,.ref nx)::sl,(nx,some (.sl e sz (fr&&fy) ((l++l2).map enc)))::(q,none)::ow,nx+1⟩ R):J K ops false (o::rest) ⟨sl,ow,nx⟩ R:=by
 have h:=J.a ho ha ht hg hd hlt hs hq hy hp hu hi hsz hz hzs h0 hb1 (λr hr'=>by obtain⟨x,_,rfl⟩:=EH.1 hr';exact hr x) (by rw[hB];simpa using hby) (rest:=rest) (R:=R);rw[<-F4]at h;exact h k
theorem J.s2 {K:Ctx}{ops:Array Oper}{dr:Bool}{o:Oper}{rest:List Oper}{sl:List (Nat×SV)}{ow:List (Nat×Option Own)}{nx:Nat}{R:St->Prop}{d:Nat}{α:Type}{enc:α->List PV}{l:List α}{t:TypeId}{x y1 y:Operand}{sx:SV}{fr fl fh:Bool}{e:TypeId}{inf:TypeInfo}{lo h:Int}{kl kh:IntKind}(m n:Nat)
  (ho:o.op= .slice t x (some y1) (some y) none) (hg:wants ops (St.mk sl ow nx).f o=some true) (hd:o.dst=some d) (hlt:K.can d=true)
  (hx:(St.mk sl ow nx).f.get x=some sx) (hr:sx.ff=some (fr,.sl (l.map enc))) (hu:K.P.underlying t=some (.slice e)) (hinf:K.P.info? e=some inf) (hy1:(St.mk sl ow nx).f.get y1=some (.val fl (.int kl lo))) (hy:(St.mk sl ow nx).f.get y=some (.val fh (.int kh h)))
  (h3: ∀z,(enc z).length=inf.size) (hl1:lo=(m:Nat)) (hh:h=(n:Nat)) (hmn:m<=n) (hn:n<=l.length)
  (q:J K ops dr rest ⟨(d,.val fr (.sl (((l.take n).drop m).map enc)))::sl,ow,nx⟩ R):J K ops dr (o::rest) ⟨sl,ow,nx⟩ R:=by
 refine J.s (l:=lo) (h:=h) (fl:=fl) (kl:=kl) ho hg hd hlt hx hr hu hinf (.inr ⟨y1,rfl,hy1⟩) (.inr ⟨y,rfl,hy⟩) (by omega) (by omega) (by simp;omega) (λr hr=> ?_) ?_
 ·obtain⟨z,_,rfl⟩:=EH.1 hr;exact h3 z
 ·rw[hh,hl1];simpa[Gp,List.map_drop]using q
theorem bV {α β:Type}{f:α->β}{l pre post:List α}{x:α}{n:Nat}(h:l=pre++x::post)(hn:n=pre.length):decide ((n:Int)<((l.map f).length:Nat))=true:=by
 subst h hn;simp;omega
theorem bj {α β:Type}{f:α->β}{l:List α}:decide ((l.length:Int)<((l.map f).length:Nat))=false:=by simp
theorem bW {α:Type}{l pre post:List α}{x:α}{n:Nat}(h:l=pre++x::post)(hn:n=pre.length):n<l.length:=by
 subst h hn;simp
theorem ai {l n:Nat}(h:n<l)(hl:l*8<=140737488355328):IntKind.i64.wrap ((n:Int)+1)=((n+1:Nat):Int):=by
 rw[af (by omega) (by omega)];rfl
set_option linter.unusedSimpArgs false
section
variable {K:Ctx}{ops:Array Oper}{dr:Bool}{o:Oper}{rest:List Oper}{sl:List (Nat×SV)}{ow:List (Nat×Option Own)}{nx:Nat}{R:St->Prop}{d:Nat}
theorem J.s3 {α:Type}{enc:α->List PV}{l:List α}{t:TypeId}{x y1:Operand}{sx:SV}{fr fl:Bool}{e:TypeId}{inf:TypeInfo}{lo:Int}{kl:IntKind}(m:Nat)
  (ho:o.op= .slice t x (some y1) none none) (hg:wants ops (St.mk sl ow nx).f o=some true) (hd:o.dst=some d) (hlt:K.can d=true)
  (hx:(St.mk sl ow nx).f.get x=some sx) (hr:sx.ff=some (fr,.sl (l.map enc))) (hu:K.P.underlying t=some (.slice e)) (hinf:K.P.info? e=some inf) (hy1:(St.mk sl ow nx).f.get y1=some (.val fl (.int kl lo)))
  (h3: ∀z,(enc z).length=inf.size) (hl1:lo=(m:Nat)) (hmn:m<=l.length)
  (q:J K ops dr rest ⟨(d,.val fr (.sl ((l.drop m).map enc)))::sl,ow,nx⟩ R):J K ops dr (o::rest) ⟨sl,ow,nx⟩ R:=by
 subst hl1;refine J.s (fh:=true) (kh:= .i64) ho hg hd hlt hx hr hu hinf (.inr ⟨y1,rfl,hy1⟩) (.inl ⟨rfl,rfl⟩) (by omega) (by simp;omega) (by simp) (λr hr=>by obtain⟨z,_,rfl⟩:=EH.1 hr;exact h3 z) ?_;have e:((l.map enc).take ((l.map enc).length:Int).toNat).drop ((m:Int).toNat)=(l.drop m).map enc:=(by rw[Eo,Eo,Ep,<-List.map_drop]);rw[e];exact q
theorem J.rm {t t2:TypeId}{x y:Operand}{fa fb:Bool}{k:IntKind}{a b:Int}(ho:o.op= .binOp .rem t x y t2)(hg:wants ops (St.mk sl ow nx).f o=some true)(hd:o.dst=some d)(hlt:K.can d=true)
  (hx:(St.mk sl ow nx).f.get x=some (.val fa (.int k a))) (hy:(St.mk sl ow nx).f.get y=some (.val fb (.int k b))) (hb:b≠0)
  (q:J K ops dr rest ⟨(d,.val true (.int k (a.tmod b)))::sl,ow,nx⟩ R):J K ops dr (o::rest) ⟨sl,ow,nx⟩ R:=by
 refine J.e hg hd hlt ?_ q;simp only[ev,ho,hx,hy,wK,if_true,E4 hb,FJ]
theorem J.qu {t t2:TypeId}{x y:Operand}{fa fb:Bool}{k:IntKind}{a b:Int}(ho:o.op= .binOp .quo t x y t2)(hg:wants ops (St.mk sl ow nx).f o=some true)(hd:o.dst=some d)(hlt:K.can d=true)
  (hx:(St.mk sl ow nx).f.get x=some (.val fa (.int k a))) (hy:(St.mk sl ow nx).f.get y=some (.val fb (.int k b))) (hb:b≠0)
  (q:J K ops dr rest ⟨(d,.val true (.int k (k.wrap (a.tdiv b))))::sl,ow,nx⟩ R):J K ops dr (o::rest) ⟨sl,ow,nx⟩ R:=by
 refine J.e hg hd hlt ?_ q;simp only[ev,ho,hx,hy,wK,if_true,E4 hb,FJ]
end
theorem Rel.unbx {K:Ctx}{sl:List (Nat×SV)}{ow:List (Nat×Option Own)}{nx s o:Nat}{fr:Bool}{row:List PV}(hM: ∀b,¬K.M b)(hs:lk sl s=some (.optr o 0 0 0))(ho:(St.mk sl ow nx).f.own o=some (.box fr row))(a:Act)(w:World)(h:Rel K ⟨sl,ow,nx⟩ a w):
  Rel K ⟨(s,.fptr fr row)::sl,(o,none)::ow,nx⟩ a w:=by
 obtain⟨φ,hφ⟩:=h;have hown': ∀q c,(St.mk ((s,.fptr fr row)::sl) ((o,none)::ow) nx).f.own q=some c->q≠o/\(St.mk sl ow nx).f.own q=some c:=by
  intro q c hq;simp only[St.f,ak]at hq;by_cases e:o=q;·rw[E6 e]at hq;cases hq
  ·rw[E4 e]at hq;exact⟨Ne.symm e,hq⟩
 have hZ: ∀f b,Zf K (St.mk sl ow nx).f φ f b->Zf K (St.mk ((s,.fptr fr row)::sl) ((o,none)::ow) nx).f φ f b:=
  λf b hb=>⟨⟨hb.1.1,λq c hq=>hb.1.2 q c (hown' q c hq).2⟩,hb.2⟩
 refine⟨φ,hφ.df,hφ.sz,hφ.old,hφ.kept,?_,?_,?_,?_,?_,?_⟩
 ·intro q c hq;exact(hφ.own q c (hown' q c hq).2).mono (λ_ _=>rfl) λf b hb _=>⟨hZ f b hb,rfl⟩
 ·intro q c g hq;exact hφ.mine q c g (hown' q c hq).2
 ·intro q c hq;exact hφ.inU q c (hown' q c hq).2
 ·intro q q' c c' g hq hq';exact hφ.dis q q' c c' g (hown' q c hq).2 (hown' q' c' hq').2
 ·intro t sv hsv;rcases slot_put t sv hsv with ⟨rfl,rfl⟩|⟨_,h⟩
  ·obtain⟨v,hv,hr⟩:=hφ.slot t _ hs;refine⟨v,hv,?_⟩;obtain⟨g,hg,e⟩:=hr;obtain⟨g',ty,cur,hv0,hh,hl,h1⟩:=hφ.own o _ ho;have hgg:g'=g:=(by rw[hv0]at hg;simpa[aC]using hg);subst hgg;have hge:K.w0.heap.size<=g':=(hφ.mine o _ g' ho (.inl hg)).resolve_right (hM g');have hlt:g'<w.heap.size:=(EU.1 hh).1;refine⟨g',0,cur.toList,by rw[e],⟨⟨.inl hge,λq c hq hvq=> ?_⟩,λ_=>K.hF _ hge⟩,hlt,Rep.monoL (λb hb _=>⟨hZ fr b hb,rfl⟩) hl,h1,λj v hj=> ?_⟩
   ·obtain⟨hne,hq'⟩:=hown' q c hq;exact hne (hφ.dis q o c _ g' hq' ho hvq (.inl hg))
   ·refine ce hh ?_;rw[Fy,cell_of_row _ g' j cur ty (0,0) hh];simpa using hj
  ·obtain⟨v,hv,hr⟩:=hφ.slot t sv h;exact⟨v,hv,hr.mono (hφ.sin t sv h) (λf b hb _=>⟨hZ f b hb,rfl⟩) (λ_ _=>rfl)⟩
 ·intro t sv hsv;rcases slot_put t sv hsv with ⟨rfl,rfl⟩|⟨_,h⟩;·trivial
  ·exact hφ.sin t sv h
def sF (vs:Nat->Value)(sl:List (Nat×SV)):List Nat->List (Nat×SV)
 | []=>[]
 |s::ss=>match lk sl s with
  |some (.val _ p)=>(s,.fix (vs s) p)::sF vs sl ss
  |_=>sF vs sl ss
def nT (sl:List (Nat×SV)):List Nat->List (Nat×SV)
 | []=>[]
 |s::ss=>match lk sl s with
  |some (.val _ p)=>(s,mkv false p)::nT sl ss
  |some (.fptr _ cs)=>(s,.fptr false cs)::nT sl ss
  |_=>nT sl ss
theorem lk_fixSl {vs:Nat->Value}{sl l2:List (Nat×SV)}{s:Nat}{sv:SV}: ∀{ss:List Nat},lk (sF vs sl ss++l2) s=some sv->(∃fr p,s∈ss/\lk sl s=some (.val fr p)/\sv= .fix (vs s) p)∨lk l2 s=some sv
 | [],h=> .inr h
 |q::ss,h=>by
  simp only[sF]at h;split at h
  ·rename_i fr p hq;rw[Fj,ak]at h;by_cases e:q=s
   ·subst e;rw[E6 Y]at h;exact .inl ⟨fr,p,.head _,hq,(E7 h).symm⟩
   ·rw[E4 e]at h;rcases lk_fixSl h with ⟨fr,p,hm,h⟩|h;·exact .inl ⟨fr,p,.tail _ hm,h⟩
    ·exact .inr h
  ·rcases lk_fixSl h with ⟨fr,p,hm,h⟩|h;·exact .inl ⟨fr,p,.tail _ hm,h⟩
   ·exact .inr h
theorem lk_oldSl {sl:List (Nat×SV)}{s:Nat}{sv:SV}: ∀{ss:List Nat},lk (nT sl ss) s=some sv->(∃fr p,lk sl s=some (.val fr p)/\sv=mkv false p)∨(∃fr cs,lk sl s=some (.fptr fr cs)/\sv= .fptr false cs)
 | [],h=>by simp[nT,lk]at h
 |q::ss,h=>by
  simp only[nT]at h;split at h
  ·rename_i fr p hq;rw[ak]at h;by_cases e:q=s
   ·subst e;rw[E6 Y]at h;exact .inl ⟨fr,p,hq,(E7 h).symm⟩
   ·rw[E4 e]at h;exact lk_oldSl h
  ·rename_i fr p hq;rw[ak]at h;by_cases e:q=s
   ·subst e;rw[E6 Y]at h;exact .inr ⟨fr,p,hq,(E7 h).symm⟩
   ·rw[E4 e]at h;exact lk_oldSl h
  ·exact lk_oldSl h
def Ctx.snap (K:Ctx)(w:World):Ctx:=⟨K.P,w,λb=>K.w0.heap.size<=b∨K.Z0 b,λ_=>False,K.n,λb=>w.heap.size<=b,λ_ h=>h,K.lo,K.vs,K.df⟩
theorem Rel.unsnap {K:Ctx}{w1:World}(hk:Kept K.M K.w0 w1){E:St}{a:Act}{w:World}(h:Rel (K.snap w1) E a w):Rel K E a w:=by
 obtain⟨φ,hφ⟩:=h;have hk2:=hφ.kept;have hsz:K.w0.heap.size<=w1.heap.size:=hk.size;have hZ: ∀f b,Zf (K.snap w1) E.f φ f b->Zf K E.f φ f b:=by
  rintro f b ⟨⟨h1,h2⟩,h3⟩;refine⟨⟨?_,h2⟩,λhf=>K.hF _ (Em hsz (h3 hf))⟩;rcases h1 with h1|h1;·exact .inl (Em hsz h1)
  ·exact h1
 refine⟨φ,hφ.df,hφ.sz,hφ.old,⟨hk2.os.trans hk.os,hk2.tape.trans hk.tape,hk2.output.trans hk.output,Em hk.size hk2.size,λb hb hm=>(hk2.block b (Gv hb hsz) (λhm=>hm)).trans (hk.block b hb hm)⟩,?_,?_,hφ.inU,hφ.dis,?_,hφ.sin⟩;·exact λo c ho=>(hφ.own o c ho).mono (λ_ _=>rfl) λf b hb _=>⟨hZ f b hb,rfl⟩
 ·exact λo c g ho hg=>(hφ.mine o c g ho hg).elim (λh=> .inl (Em hsz h)) (λh=>h.elim)
 ·intro s sv hs;obtain⟨v,hv,hr⟩:=hφ.slot s sv hs;exact⟨v,hv,hr.mono (hφ.sin s sv hs) (λf b hb _=>⟨hZ f b hb,rfl⟩) (λ_ _=>rfl)⟩
theorem T.snap {K:Ctx}{c:Code}{sl:List (Nat×SV)}{nx:Nat}{Q:Exit->St->Prop}(fx keep:List Nat)
  (h: ∀(w1:World) (vs:Nat->Value),(∀s fr p,lk sl s=some (.val fr p)->Rep w1 (K.snap w1).Z0 (vs s) p)->T (K.snap w1) c ⟨sF vs sl fx++nT sl keep,[],0⟩ Q):T K c ⟨sl,[],nx⟩ Q:=by
 refine⟨λa w hr=> ?_⟩;obtain⟨φ,hφ⟩:=hr;let vs:Nat->Value:=λs=>a.tmps.getD s undef;have hno: ∀o c,(St.mk sl [] nx).f.own o≠some c:=(by intro o c ho;simp[St.f,lk]at ho);have hZ1: ∀f b,Zf K (St.mk sl [] nx).f φ f b->(K.snap w).Z0 b:=λf b hb=>hb.1.1;have hvs: ∀s fr p,lk sl s=some (.val fr p)->a.tmps.getD s undef=vs s/\Rep w (K.snap w).Z0 (vs s) p:=by
  intro s fr p hs;obtain⟨v,hv,hr⟩:=hφ.slot s _ hs;have e:vs s=v:=hv;rw[e];exact⟨hv,Rep.mono (λb hb _=>⟨hZ1 _ b hb,rfl⟩) hr⟩
 have hk:=(h w vs λs fr p hs=>(hvs s fr p hs).2).out a w ?_
 ·refine wp_mono hk ?_;rintro e a' w' ⟨hf,E,hq,hr⟩;exact⟨hf,E,hq,hr.unsnap hφ.kept⟩
 ·have hZ: ∀b,(K.snap w).Z0 b->Zf (K.snap w) (St.mk (sF vs sl fx++nT sl keep) [] 0).f φ false b:=λb hb=>⟨⟨.inr hb,λo c ho=>by simp[St.f,lk]at ho⟩,λe=>by cases e⟩;refine⟨φ,hφ.df,hφ.sz,hφ.old,⟨rfl,rfl,rfl,EO _,λ_ _ _=>rfl⟩,?_,?_,?_,?_,?_,?_⟩;·intro o c ho;simp[St.f,lk]at ho
  ·intro o c g ho;simp[St.f,lk]at ho
  ·intro o c ho;simp[St.f,lk]at ho
  ·intro o o' c c' g ho;simp[St.f,lk]at ho
  ·intro s sv hs;rcases lk_fixSl hs with ⟨fr,p,_,h1,rfl⟩|h2
   ·obtain⟨h2,h3⟩:=hvs s fr p h1;exact⟨vs s,h2,rfl,Rep.mono (λb hb _=>⟨hZ b hb,rfl⟩) h3⟩
   ·rcases lk_oldSl h2 with ⟨fr,p,h1,rfl⟩|⟨fr,cs,h1,rfl⟩
    ·obtain⟨h2,h3⟩:=hvs s fr p h1;exact⟨vs s,h2,(f9 (U:=λ_=>True) (Rep.mono (λb hb _=>⟨hZ b hb,rfl⟩) h3)).1⟩
    ·obtain⟨v,hv,b,o,xs,e,hz,hb,hl,h4,h5⟩:=hφ.slot s _ h1;exact⟨v,hv,b,o,xs,e,hZ b (hZ1 _ b hz),hb,Rep.monoL (λb hb _=>⟨hZ b (hZ1 _ b hb),rfl⟩) hl,h4,h5⟩
  ·intro s sv hs;rcases lk_fixSl hs with ⟨fr,p,_,h1,rfl⟩|h2;·trivial
   ·rcases lk_oldSl h2 with ⟨fr,p,h1,rfl⟩|⟨fr,cs,h1,rfl⟩;·exact xK _ _
    ·trivial
inductive Sh:PV->PV->Prop
 |bool (b):Sh (.bool b) (.bool b)
 |int (k n m):Sh (.int k n) (.int k m)
 |str (s):Sh (.str s) (.str s)
 |agg (cs ds):L2 Sh cs ds->Sh (.agg cs) (.agg ds)
 |sl (rs ts):L2 (L2 Sh) rs ts->Sh (.sl rs) (.sl ts)
 |fn (f as bs cs ds):L2 Sh as cs->L2 Sh bs ds->Sh (.fn f as bs) (.fn f cs ds)
 |nilp:Sh .nilp .nilp
 |nilf:Sh .nilf .nilf
 |ptr (cs ds):L2 Sh cs ds->Sh (.ptr cs) (.ptr ds)
 |raw (u v):Sh (.raw u) (.raw v)
theorem Sh.one {p q:PV}(h:Sh p q):q.one=p.one:=by cases h<;>rfl
theorem L2.unflat {α β:Type}{R:α->β->Prop}: ∀(rows:List (List α)) (ps:List β),L2 R rows.flatten ps->∃rows',L2 (L2 R) rows rows'/\rows'.flatten=ps
 | [],ps,h=>by cases h;exact⟨[],.nil,rfl⟩
 |r::rows,ps,h=>by
  have hl: ∀(r:List α) (xs:List α) (ps:List β),L2 R (r++xs) ps->∃a b,ps=a++b/\L2 R r a/\L2 R xs b:=by
   intro r
   induction r with
   |nil=>intro xs ps h;exact⟨[],ps,rfl,.nil,h⟩
   |cons x r ih=>
    intro xs ps h;cases h with
    |cons h1 h2=>
     obtain⟨a,b,rfl,h3,h4⟩:=ih _ _ h2;exact⟨_::a,b,rfl,.cons h1 h3,h4⟩
  obtain⟨a,b,rfl,h1,h2⟩:=hl r _ ps h;obtain⟨rows',h3,rfl⟩:=L2.unflat rows b h2;exact⟨a::rows',.cons h1 h3,rfl⟩
theorem L2.lens {α β:Type}{R:α->β->Prop}{n:Nat}{rows:List (List α)}{rows':List (List β)}(h:L2 (L2 R) rows rows')(hl: ∀r∈rows,r.length=n): ∀r∈rows',r.length=n:=by
 induction h with
 |nil=>simp
 |cons h1 _ ih=>
  intro r hr;rcases ET.1 hr with rfl|hr;·rw[<-h1.length];exact hl _ (.head _)
  ·exact ih (λr hr=>hl r (.tail _ hr)) r hr
theorem L2.ones {rows rows':List (List PV)}(h:L2 (L2 Sh) rows rows')(hl: ∀r∈rows,∀p∈r,p.one=true): ∀r∈rows',∀p∈r,p.one=true:=by
 induction h with
 |nil=>simp
 | @cons a b _ _ h1 _ ih=>
  intro r hr;rcases ET.1 hr with rfl|hr
  ·have h2:=hl a (.head _);clear ih hl hr
   induction h1 with
   |nil=>simp
   |cons h3 _ ih2=>
    intro p hp;rcases ET.1 hp with rfl|hp;·rw[h3.one];exact h2 _ (.head _)
    ·exact ih2 (λp hp=>h2 p (.tail _ hp)) p hp
  ·exact ih (λr hr=>hl r (.tail _ hr)) r hr
section
variable {w:World}{Z:Nat->Prop}{b0 o0:Nat}{k0:IntKind}{n0 m0:Int}
theorem zI (hc:w.cell? ⟨b0,o0,none⟩=some (.int k0 n0)){a:Addr}{v:Value}(h:nA w a v): ∃v',nA (w.setCell ⟨b0,o0,none⟩ (.int k0 m0)) a v'/\(v'=v∨(v= .int k0 n0/\v'= .int k0 m0)):=by
 have hfz:(w.setCell ⟨b0,o0,none⟩ (.int k0 m0)).frozen? a=false:=by
  rw[<-h.2];exact World.frozen?_setCell _ _ _ _
 by_cases e:(⟨b0,o0,none⟩:Addr)=a
 ·subst e;have e2:v= .int k0 n0:=by
   have h1:=h.1;rw[hc]at h1;exact(E7 h1).symm
  exact⟨_,⟨World.cell?_setCell_same _ _ _ hc,hfz⟩,.inr ⟨e2,rfl⟩⟩
 ·exact⟨v,⟨by rw[World.cell?_setCell_other _ _ _ _ e];exact h.1,hfz⟩,.inl Y⟩
theorem mW (hc:w.cell? ⟨b0,o0,none⟩=some (.int k0 n0)){w':World}{Z':Nat->Prop}{b:Nat}: ∀(xs:List Value) (ps:List PV) (off:Nat),(∀j v,xs[j]? =some v->nA w ⟨b,off+j,none⟩ v)->
  L2 (Rep w Z) xs ps->L2 (λv p=> ∃p',Sh p p'/\Rep w' Z' v p') xs ps->∃xs' ps',(∀j v,xs'[j]? =some v->nA (w.setCell ⟨b0,o0,none⟩ (.int k0 m0)) ⟨b,off+j,none⟩ v)/\L2 (Rep w' Z') xs' ps'/\L2 Sh ps ps'
 | [],_,off,_,.nil,.nil=>⟨[],[],by simp,.nil,.nil⟩
 |x::xs,p::ps,off,h,.cons h0 h0r,.cons h1 h2=>by
  obtain⟨xs',ps',h3,h4,h5⟩:=mW hc xs ps (off+1) (λj v hj=>by have:=h (j+1) v (by simpa using hj);rwa[show off+(j+1)=off+1+j by omega]at this) h0r h2;obtain⟨v',h6,h7⟩:=zI (m0:=m0) hc (h 0 x Y);obtain⟨p',h8,h9⟩:=h1;have: ∃p'',Sh p p''/\Rep w' Z' v' p'':=by
   rcases h7 with rfl|⟨rfl,rfl⟩;·exact⟨p',h8,h9⟩
   ·cases h0 with
    |int _ _=>exact⟨.int k0 m0,.int _ _ _,.int _ _⟩
    |raw _ hu=>exact⟨.raw (.int k0 m0),.raw _ _,.raw _ Y⟩
  obtain⟨p'',h10,h11⟩:=this;refine⟨v'::xs',p''::ps',λj v hj=> ?_,.cons h11 h4,.cons h10 h5⟩;cases j with
  |zero=>simp at hj;subst hj;exact h6
  |succ j=>have:=h3 j v (by simpa using hj);rwa[show off+(j+1)=off+1+j by omega]
theorem Rep.poke {Z':Nat->Prop}(hz: ∀b,Z b->b<w.heap.size->Z' b)(hc:w.cell? ⟨b0,o0,none⟩=some (.int k0 n0)){v:Value}{p:PV}(hr:Rep w Z v p): ∃p',Sh p p'/\Rep (w.setCell ⟨b0,o0,none⟩ (.int k0 m0)) Z' v p':=by
 have key: ∀(vs:List Value) (ps:List PV),L2 (λv p=> ∃p',Sh p p'/\Rep (w.setCell ⟨b0,o0,none⟩ (.int k0 m0)) Z' v p') vs ps->∃ps',L2 Sh ps ps'/\L2 (Rep (w.setCell ⟨b0,o0,none⟩ (.int k0 m0)) Z') vs ps':=by
  intro vs ps h
  induction h with
  |nil=>exact⟨[],.nil,.nil⟩
  |cons h1 _ ih=>
   obtain⟨p',h2,h3⟩:=h1;obtain⟨ps',h4,h5⟩:=ih;exact⟨p'::ps',.cons h2 h4,.cons h3 h5⟩
 refine Rep.rec (motive_1:=λv p _=> ∃p',Sh p p'/\Rep (w.setCell ⟨b0,o0,none⟩ (.int k0 m0)) Z' v p') (motive_2:=λvs ps _=>L2 (λv p=> ∃p',Sh p p'/\Rep (w.setCell ⟨b0,o0,none⟩ (.int k0 m0)) Z' v p') vs ps) ?_ ?_ ?_ ?_ ?_ ?_ ?_ ?_ ?_ ?_ ?_ ?_ ?_ ?_ hr;·exact λb=>⟨_,.bool b,.bool b⟩
 ·exact λk n=>⟨_,.int k n n,.int k n⟩
 ·exact λs=>⟨_,.str s,.str s⟩
 ·intro vs cs _ h1 ih;obtain⟨ps',h2,h3⟩:=key vs cs ih;refine⟨_,.agg cs ps' h2,.agg vs ps' h3 ?_⟩;have:=L2.ones (.cons h2 .nil) (by simpa using h1);simpa using this
 ·exact⟨_,.sl [] [] .nil,.nilsl⟩
 ·exact λa cap hc=>⟨_,.sl [] [] .nil,.slE a cap hc⟩
 ·intro b off cap sz rows xs hzb hb h1 h2 h3 h4 h5 h6 ih;obtain⟨xs',ps',h7,h8,h9⟩:=mW (m0:=m0) hc xs rows.flatten off h3 h6 ih;obtain⟨rows',h10,h11⟩:=L2.unflat rows ps' h9;have hlen:=h10.length;refine⟨_,.sl rows rows' h10,?_⟩;rw[hlen];exact .sl b off cap sz rows' xs' (hz b hzb hb) (by simpa using hb) (h10.lens h1) (h10.ones h2) h7 (by omega) h5 (by rw[h11];exact h8)
 ·intro f vs us first caps _ _ ih1 ih2
  obtain⟨ps,h1,h2⟩:=key vs first ih1
  obtain⟨qs,h3,h4⟩:=key us caps ih2;exact⟨_,.fn f first caps ps qs h1 h3,.fn f vs us ps qs h2 h4⟩
 ·exact⟨_,.nilp,.nilp⟩
 ·exact⟨_,.nilf,.nilf⟩
 ·intro b o cells xs hzb hb h1 h2 h3 ih;obtain⟨xs',ps',h4,h5,h6⟩:=mW (m0:=m0) hc xs cells o h2 h3 ih;refine⟨_,.ptr cells ps' h6,.ptr b o ps' xs' (hz b hzb hb) (by simpa using hb) ?_ h4 h5⟩;have:=L2.ones (.cons h6 .nil) (by simpa using h1);simpa using this
 ·exact λu hu=>⟨_,.raw u u,.raw u hu⟩
 ·exact .nil
 ·exact λ_ _ ih1 ih2=> .cons ih1 ih2
end
def Al (sl:List (Nat×SV)):List Nat->List (Nat×SV)
 | []=>[]
 |s::ss=>match lk sl s with
  |some (.fix v p)=>(s,.fix v p)::Al sl ss
  |_=>Al sl ss
def wt (sl:List (Nat×SV)):List Nat->List (Nat×SV)
 | []=>[]
 |s::ss=>match lk sl s with
  |some (.val _ p)=>match p.flat with
   |true=>(s,.val true p)::wt sl ss
   |false=>wt sl ss
  |_=>wt sl ss
theorem lk_fxSl {sl l2:List (Nat×SV)}{s:Nat}{sv:SV}: ∀{ss:List Nat},lk (Al sl ss++l2) s=some sv->(∃v p,s∈ss/\lk sl s=some (.fix v p)/\sv= .fix v p)∨lk l2 s=some sv
 | [],h=> .inr h
 |q::ss,h=>by
  simp only[Al]at h;split at h
  ·rename_i v p hq;rw[Fj,ak]at h;by_cases e:q=s
   ·subst e;rw[E6 Y]at h;exact .inl ⟨v,p,.head _,hq,(E7 h).symm⟩
   ·rw[E4 e]at h;rcases lk_fxSl h with ⟨v,p,hm,h⟩|h;·exact .inl ⟨v,p,.tail _ hm,h⟩
    ·exact .inr h
  ·rcases lk_fxSl h with ⟨v,p,hm,h⟩|h;·exact .inl ⟨v,p,.tail _ hm,h⟩
   ·exact .inr h
theorem me {sl:List (Nat×SV)}{s:Nat}{sv:SV}: ∀{ss:List Nat},lk (wt sl ss) s=some sv->∃fr p,lk sl s=some (.val fr p)/\p.flat=true/\sv= .val true p
 | [],h=>by simp[wt,lk]at h
 |q::ss,h=>by
  simp only[wt]at h;split at h
  ·rename_i fr p hq;split at h
   ·rename_i hf;rw[ak]at h;by_cases e:q=s
    ·subst e;rw[E6 Y]at h;exact⟨fr,p,hq,hf,(E7 h).symm⟩
    ·rw[E4 e]at h;exact me h
   ·exact me h
  ·exact me h
theorem J.tr {K:Ctx}{ops:Array Oper}{o:Oper}{rest:List Oper}{sl:List (Nat×SV)}{nx:Nat}{R:St->Prop}{t:TypeId}{x s:Nat}{y:Operand}{k:IntKind}{n m:Int}{cs:List PV}{fy fr:Bool}{inf:TypeInfo}{D:PV}(fx keep:List Nat)(hM: ∀b,¬K.M b)(hFs: ∀b,K.F b->K.w0.heap.size<=b)
  (ho:o.op= .store t (.tmp x) y) (hg:wants ops (St.mk sl [] nx).f o=some true) (hd:o.dst=none) (hx:lk sl x=some (.fptr true (.int k n::cs))) (hy:(St.mk sl [] nx).f.get y=some (.val fy (.int k m))) (hi:K.P.info? t=some inf) (hs1:inf.size=1)
  (hs:lk sl s=some (.val fr D)) (hfx: ∀q u p,q∈fx->lk sl q=some (.fix u p)->Rep K.w0 K.Z0 u p)
  (q: ∀D',Sh D D'->J K ops false rest ⟨(s,.val fr D')::(Al sl fx++wt sl keep),[],0⟩ R):J K ops false (o::rest) ⟨sl,[],nx⟩ R:=by
 refine⟨TO.mk λa w Q hr hQ=> ?_⟩;obtain⟨φ,hφ⟩:=hr;unfold wpList;rw[E6 (aH hφ hg)];refine .inl ?_;obtain⟨v,hv,b,o0,xs,rfl,hz,hb,hl,h1,hsoft⟩:=hφ.slot x _ hx;obtain⟨xs',rfl⟩: ∃xs',xs= .int k n::xs':=by
  cases hl with
  |cons h1 _=>cases h1;exact⟨_,rfl⟩
 have hcell:=hsoft 0 _ Y;rw[G3]at hcell;have hxe:a.eval (.tmp x)= .pointer (some ⟨b,o0,none⟩):=(by simp[Act.eval,hv]);have hye:a.eval y= .int k m:=by
  have:=(ah hφ hy).1;generalize a.eval y=u at this⊢;cases this;rfl
 have hno: ∀i c,(St.mk sl [] nx).f.own i≠some c:=(by intro i c hi;simp[St.f,lk]at hi);have hge:K.w0.heap.size<=b:=hFs b (hz.2 Y);have hrun:(execOp a.eval o).run K.P w= .ok .skip (w.setCell ⟨b,o0,none⟩ (.int k m)):=by
  have hst:(store (⟨b,o0,none⟩:Addr) (.int k m)).run K.P w= .ok () (w.setCell ⟨b,o0,none⟩ (.int k m)):=by
   rw[run_store _ _ _ _ _ Y,hcell.1];simp[hcell.2]
  simp only[execOp,ho,hxe,hye,Instr.storeAt,Instr.sureAddr,EM,Ev,EG,storeVar,aU hi,hs1];rw[E4 (by simp[Value.cells])];simp only[Value.cells,storeCells,EM,bE,G3,hst,EG,Ev]
 unfold Oper.wp;rw[hrun];have hdst:a.put o.dst undef=a:=(by rw[hd];rfl);have hother: ∀b',b'≠b->(w.setCell ⟨b,o0,none⟩ (.int k m)).heap[b']? =w.heap[b']? :=λb' hne=>heap_setCell_other w _ b' _ hne;obtain⟨vs,hvs,hrs⟩:=hφ.slot s _ hs;obtain⟨D',hsh,hrep⟩:=Rep.poke (Z':=Zf K (St.mk sl [] nx).f φ fr) (m0:=m) (λb hb _=>hb) hcell.1 hrs;refine(q D' hsh).out.out _ _ Q ?_ hQ;rw[hdst];have hZ: ∀f b',Zf K (St.mk sl [] nx).f φ f b'->Zf K (St.mk ((s,.val fr D')::(Al sl fx++wt sl keep)) [] 0).f φ f b':=λf b' hb'=>⟨⟨hb'.1.1,λi c hi=>by simp[St.f,lk]at hi⟩,hb'.2⟩;refine⟨φ,hφ.df,hφ.sz,hφ.old,⟨hφ.kept.os,hφ.kept.tape,hφ.kept.output,by simpa using hφ.kept.size,λb' hb' hm=>(hother b' (by omega)).trans (hφ.kept.block b' hb' hm)⟩,?_,?_,?_,?_,?_,?_⟩;·intro i c hi;simp[St.f,lk]at hi
 ·intro i c g hi;simp[St.f,lk]at hi
 ·intro i c hi;simp[St.f,lk]at hi
 ·intro i i' c c' g hi;simp[St.f,lk]at hi
 ·intro i sv hi;rcases slot_put i sv hi with ⟨rfl,rfl⟩|⟨_,h2⟩;·exact⟨vs,hvs,Rep.mono (λb' hb' _=>⟨hZ _ b' hb',rfl⟩) hrep⟩
  ·rcases lk_fxSl h2 with ⟨u,p,hm,h3,rfl⟩|h3
   ·obtain⟨v,hv,e,_⟩:=hφ.slot i _ h3;refine⟨v,hv,e,?_⟩;rw[e];refine Rep.mono (λb' hb' hlt=>⟨⟨⟨.inr hb',λi c hi=>by simp[St.f,lk]at hi⟩,λe=>by cases e⟩,?_⟩) (hfx i u p hm h3);exact(hother b' (by omega)).trans (hφ.kept.block b' hlt (hM b'))
   ·obtain⟨fr',p,h4,hf,rfl⟩:=me h3;obtain⟨v,hv,hr⟩:=hφ.slot i _ h4;refine⟨v,hv,?_⟩;have hr:Rep w _ v p:=hr;show Rep _ _ v p;cases hr<;>first|exact .bool _|exact .int _ _|exact .str _|exact .nilp|exact .nilf|(refine .raw _ ?_;assumption)|(simp[PV.flat]at hf)
 ·intro i sv hi;rcases slot_put i sv hi with ⟨rfl,rfl⟩|⟨_,h2⟩;·trivial
  ·rcases lk_fxSl h2 with ⟨u,p,hm,h3,rfl⟩|h3;·trivial
   ·obtain⟨fr',p,h4,hf,rfl⟩:=me h3;trivial
theorem Rel.wk {K:Ctx}{sl:List (Nat×SV)}{ow:List (Nat×Option Own)}{nx:Nat}{o:Nat}{e:TypeId}{sz:Nat}{rows:List (List PV)}(ho:(St.mk sl ow nx).f.own o=some (.sl e sz true rows))(a:Act)(w:World)(h:Rel K ⟨sl,ow,nx⟩ a w):
  Rel K ⟨sl,(o,some (.sl e sz false rows))::ow,nx⟩ a w:=by
 obtain⟨φ,hφ⟩:=h;have hown': ∀q c,(St.mk sl ((o,some (.sl e sz false rows))::ow) nx).f.own q=some c->(q=o/\c= .sl e sz false rows)∨(q≠o/\(St.mk sl ow nx).f.own q=some c):=by
  intro q c hq;simp only[St.f,ak]at hq;by_cases e:o=q;·rw[E6 e]at hq;exact .inl ⟨e.symm,(E7 hq).symm⟩
  ·rw[E4 e]at hq;exact .inr ⟨Ne.symm e,hq⟩
 have hdom: ∀q c,(St.mk sl ((o,some (.sl e sz false rows))::ow) nx).f.own q=some c->∃c',(St.mk sl ow nx).f.own q=some c':=by
  intro q c hq;rcases hown' q c hq with ⟨rfl,_⟩|⟨_,h⟩;·exact⟨_,ho⟩
  ·exact⟨_,h⟩
 have hZ: ∀f b,Zf K (St.mk sl ow nx).f φ f b->Zf K (St.mk sl ((o,some (.sl e sz false rows))::ow) nx).f φ f b:=
  λf b hb=>⟨⟨hb.1.1,λq c hq=>by obtain⟨c',hq'⟩:=hdom q c hq;exact hb.1.2 q c' hq'⟩,hb.2⟩
 refine⟨φ,hφ.df,hφ.sz,hφ.old,hφ.kept,?_,?_,?_,?_,?_,?_⟩
 ·intro q c hq;rcases hown' q c hq with ⟨rfl,rfl⟩|⟨_,h⟩
  ·obtain⟨xs,hwn,hl,h1,h2⟩:=hφ.own q _ ho;exact⟨xs,hwn,hl.imp λ_ _ hp=>Rep.mono (λb hb _=>⟨hZ false b ⟨hb.1,λe=>by cases e⟩,rfl⟩) hp,h1,h2⟩
  ·exact(hφ.own q c h).mono (λ_ _=>rfl) λf b hb _=>⟨hZ f b hb,rfl⟩
 ·intro q c g hq;obtain⟨c',hq'⟩:=hdom q c hq;exact hφ.mine q c' g hq'
 ·intro q c hq;obtain⟨c',hq'⟩:=hdom q c hq;exact hφ.inU q c' hq'
 ·intro q q' c c' g hq hq';obtain⟨c1,hq1⟩:=hdom q c hq;obtain⟨c2,hq2⟩:=hdom q' c' hq';exact hφ.dis q q' c1 c2 g hq1 hq2
 ·intro t sv hsv;obtain⟨v,hv,hr⟩:=hφ.slot t sv hsv;exact⟨v,hv,hr.mono (hφ.sin t sv hsv) (λf b hb _=>⟨hZ f b hb,rfl⟩) (λ_ _=>rfl)⟩
 ·exact hφ.sin
structure SpecM (P:Program)(f:FuncId)(e:TypeId)(sz:Nat)(rows:List (List PV))(args:List PV)(rows':List (List PV))(res:List PV):Prop where
 isFn: ∃fn,P.funcs[f]? =some fn/\fn.body.isSome=true/\(fn.name== "runtime.NumGoroutine")=false
 flat: ∀p∈res,p.flat=true
 out: ∀(w:World) (Z1:Nat->Prop) (v0:Value) (vs:List Value),aA w (λ_=>Z1) v0 (.sl e sz true rows)->(∀b,Z1 b->¬VB v0 b)->L2 (Rep w (λb=> ¬VB v0 b)) vs args->
  Calls P f (v0::vs).toArray w λx w'=> ∃rs:List Value,x= .returned (mR rs)/\w'.os=w.os/\w'.tape=w.tape/\w'.output=w.output/\w.heap.size<=w'.heap.size/\(∀b,b<w.heap.size->¬VB v0 b->w'.heap[b]? =w.heap[b]?)/\
   aA w' (λ_ b=>(Z1 b∨w.heap.size<=b)/\¬VB v0 b) v0 (.sl e sz true rows')/\L2 (Rep w' (λ_=>False)) rs res
def ji (e:TypeId)(sz:Nat)(rows:List (List PV))(args:List PV):St:=⟨(0,.ref 0)::iV 1 args,[(0,some (.sl e sz true rows))],1⟩
def Eh (P:Program)(fn:Func)(e:TypeId)(sz:Nat)(rows':List (List PV))(res:List PV)(x:Exit)(E:St):Prop:=
 match x with
 | .normal| .ret=>Ret P E.f true fn.results.toList (res.map .val) []/\∃q,E.f.slot 0=some (.ref q)/\E.f.own q=some (.sl e sz true rows')
 |_=>False
def Ctx.ofM (P:Program)(w0:World)(v0:Value)(Z1:Nat->Prop)(n:Nat):Ctx:=⟨P,w0,λb=> ¬VB v0 b,λb=>VB v0 b,n,λb=>w0.heap.size<=b∨Z1 b,λ_ h=> .inl h,1,[v0],[]⟩
theorem pC {K:Ctx}{E:EnvF}{U:Nat->Prop}{φ:Nat->Value}{a:Act}{w:World}(h:RelW K E U φ a w): ∀{rs:List ResultVar} {res:List PV},Ret K.P E true rs (res.map .val) []->(∀p∈res,p.flat=true)->
  ∃ws:List Value,(rs.mapM (cE a.tmps)).run K.P w= .ok ws w/\L2 (Rep w (λ_=>False)) ws res
 | [],[],_,_=>⟨[],rfl,.nil⟩
 |_::rs,p::res,hr,hf=>by
  have hstep: ∀{t:ResultVar},(∃v,(cE a.tmps t).run K.P w= .ok v w/\∃Z,Rep w Z v p)->Ret K.P E true rs (res.map .val) []->∃ws:List Value,((t::rs).mapM (cE a.tmps)).run K.P w= .ok ws w/\L2 (Rep w (λ_=>False)) ws (p::res):=by
   rintro t ⟨v,hv,Z,hrep⟩ hrest;obtain⟨ws,h1,h2⟩:=pC h hrest λp hp=>hf p (.tail _ hp);refine⟨v::ws,?_,.cons (hrep.flat (hf p (.head _))) h2⟩;simp only[Gf,EM,hv,EG,h1,Ev]
  cases hr with
  | @val t sv fr _ _ _ _ hs hff _ hrest=>
   refine hstep ?_ hrest;have hx:E.get (.tmp t)=some sv:=hs;have hrep:=bK h hx hff;exact⟨_,by simp only[cE,Ev];rfl,_,hrep⟩
  | @cell t ty q fr row _ _ _ _ hs hq hp _ hrest=>
   refine hstep ?_ hrest;obtain⟨v,hv,g,hg,e⟩:=h.slot t _ hs;have hat:(Own.box fr row).at_ 0 0 0=some (fr,row):=rfl;have hc:=jZ (h.own q _ hq) hat hg;obtain⟨u,hu,hrep⟩:=gz hc hp;refine⟨u,?_,_,hrep⟩;have e2:a.tmps.getD t undef= .pointer (some ⟨g,0,none⟩):=by
    rw[hv,e]
   simp only[cE,e2,asAddr,EM,Ev,EG];simpa[Instr.loadAt,Instr.sureAddr]using hu
 | [],_::_,hr,_=>by cases hr
 |_::_,[],hr,_=>by cases hr
theorem SpecM.body {P:Program} {f:FuncId} {fn:Func} {c:Code} {e:TypeId} {sz:Nat} {rows rows':List (List PV)} {args res:List PV} (hf:P.funcs[f]? =some fn) (hb:fn.body=some c) (hn:(fn.name== "runtime.NumGoroutine")=false) (hl:Nat.ble (args.length+1) fn.ntmps=true)
  (hflat: ∀p∈res,p.flat=true) (h: ∀w0 v0 Z1,T (Ctx.ofM P w0 v0 Z1 fn.ntmps) c (ji e sz rows args) (Eh P fn e sz rows' res)):SpecM P f e sz rows args rows' res:=by
 refine⟨⟨fn,hf,by rw[hb];rfl,hn⟩,hflat,λw Z1 v0 vs hown hz1 hvs=> ?_⟩;have hle:=F3 hl;have hvl:=hvs.length;refine calls_of_wp hf hb ?_;have hsl0: ∀s sv,lk ((0,SV.ref 0)::iV 1 args) s=some sv->(s=0/\sv= .ref 0)∨∃j p,s=1+j/\args[j]? =some p/\sv= .val false p:=by
  intro s sv hs;rw[ak]at hs;by_cases e0:0=s;·rw[E6 e0]at hs;exact .inl ⟨e0.symm,(E7 hs).symm⟩
  ·rw[E4 e0]at hs;exact .inr (md args 1 s sv hs)
 have hown0: ∀o c,(ji e sz rows args).f.own o=some c->o=0/\c= .sl e sz true rows:=by
  intro o c ho;simp only[ji,St.f,ak]at ho;by_cases e0:0=o;·rw[E6 e0]at ho;exact⟨e0.symm,(E7 ho).symm⟩
  ·rw[E4 e0]at ho;simp[lk]at ho
 have hrel:Rel (Ctx.ofM P w v0 Z1 fn.ntmps) (ji e sz rows args) { tmps:=(v0::vs).toArray++Array.replicate (fn.ntmps-(v0::vs).toArray.size) undef,defers:=[] } w:=by
  have ht: ∀(j:Nat) v,(v0::vs)[j]? =some v->((v0::vs).toArray++Array.replicate (fn.ntmps-(v0::vs).toArray.size) undef)[j]? =some v:=by
   intro j v hv;have hj:j<(v0::vs).length:=(E8.1 hv).1;rw[GK (by simpa using hj)];simpa using hv
  have htd: ∀(j:Nat) v,(v0::vs)[j]? =some v->((v0::vs).toArray++Array.replicate (fn.ntmps-(v0::vs).toArray.size) undef).getD j undef=v:=λj v h=>(by rw[F8,ht j v h];rfl);have hZ: ∀b,¬VB v0 b->Zf (Ctx.ofM P w v0 Z1 fn.ntmps) (ji e sz rows args).f (λ_=>v0) false b:=λb hb=>⟨⟨.inr hb,λo c ho=>hb⟩,λe=>by cases e⟩;have hZ1: ∀b,Z1 b->Zf (Ctx.ofM P w v0 Z1 fn.ntmps) (ji e sz rows args).f (λ_=>v0) true b:=λb hb=>⟨⟨.inr (hz1 b hb),λo c ho=>hz1 b hb⟩,λ_=> .inr hb⟩;refine⟨λ_=>v0,rfl,?_,?_,⟨rfl,rfl,rfl,EO _,λ_ _ _=>rfl⟩,?_,?_,?_,?_,?_,?_⟩;·simp[Ctx.ofM];omega
  ·intro s v hs hv;have hs:s<1:=hs;obtain rfl:s=0:=(by omega);have hv: [v0][0]? =some v:=hv;exact ht 0 v (by simpa using hv)
  ·intro o c ho;obtain⟨rfl,rfl⟩:=hown0 o c ho;exact aA.mono (Z:=λ_=>Z1) (c:= .sl e sz true rows) hown (λ_ _=>rfl) λf b hb _=>⟨by
    obtain⟨h1,h2⟩:=hZ1 b hb;exact⟨h1,λ_=>h2 Y⟩,rfl⟩
  ·intro o c g ho hg;exact .inr hg
  ·intro o c ho;obtain⟨rfl,_⟩:=hown0 o c ho;exact HP
  ·intro o o' c c' g ho ho' _ _;rw[(hown0 o c ho).1,(hown0 o' c' ho').1]
  ·intro s sv hs;rcases hsl0 s sv hs with ⟨rfl,rfl⟩|⟨j,p,rfl,hp,rfl⟩;·exact⟨v0,htd 0 v0 Y,rfl⟩
   ·obtain⟨v,hv,hr⟩:=hvs.get hp;exact⟨v,htd (1+j) v (by rw[GF];simpa using hv),Rep.mono (λb hb _=>⟨hZ b hb,rfl⟩) hr⟩
  ·intro s sv hs;rcases hsl0 s sv hs with ⟨rfl,rfl⟩|⟨j,p,rfl,hp,rfl⟩;·exact HP
   ·trivial
 refine wp_mono ((h w v0 Z1).out _ w hrel) λx a w' ⟨hfe,E,hq,φ,hφ⟩=> ?_;have key:(Ret P E.f true fn.results.toList (res.map .val) []/\∃q,E.f.slot 0=some (.ref q)/\E.f.own q=some (.sl e sz true rows'))->a.defers=[]/\∃v,(results fn a.tmps).run P w'= .ok v w'/\∃rs:List Value,Ending.returned v= .returned (mR rs)/\
   w'.os=w.os/\w'.tape=w.tape/\w'.output=w.output/\w.heap.size<=w'.heap.size/\(∀b,b<w.heap.size->¬VB v0 b->w'.heap[b]? =w.heap[b]?)/\
   aA w' (λ_ b=>(Z1 b∨w.heap.size<=b)/\¬VB v0 b) v0 (.sl e sz true rows')/\L2 (Rep w' (λ_=>False)) rs res:=by
  rintro⟨hret,q,hq1,hq2⟩;obtain⟨ws,h1,h2⟩:=pC hφ hret hflat;have hk:=hφ.kept;have hold:=hφ.old 0 v0 HP Y;obtain⟨v,hv,hvr⟩:=hφ.slot 0 _ hq1;have hv0:φ q=v0:=by
   have hvr:v=φ q:=hvr;rw[F8,hold]at hv;rw[<-hvr];exact hv.symm
  refine⟨hφ.df,mR ws,?_,ws,rfl,hk.os,hk.tape,hk.output,hk.size,λb hb hne=>hk.block b hb hne,?_,h2⟩
  ·have e:results fn a.tmps=(do let vs<-fn.results.mapM (cE a.tmps);pure (if h:vs.size=1 then vs[0]else .tuple vs)):=by
    unfold results;congr
   have h1':(fn.results.toList.mapM (cE a.tmps)).run P w'= .ok ws w':=h1;rw[e,GR];simp only[EM,Hy,h1',EG];cases ws with
   |nil=>rfl
   |cons v ws=>cases ws with
    |nil=>rfl
    |cons v' ws=>rfl
  ·have ho:=hφ.own q _ hq2;rw[hv0]at ho;obtain⟨xs,hwn,hl2,h5,h6⟩:=ho;refine⟨xs,hwn,Rep.monoL (λb hb _=>⟨⟨?_,?_⟩,rfl⟩) hl2,h5,h6⟩;·exact(hb.2 Y).elim .inr .inl
   ·have:=hb.1.2 q _ hq2;rwa[hv0]at this
 cases x with
 |normal=>exact key hq
 |ret=>exact key hq
 |exit id=>exact hq.elim
 |goto l=>exact hq.elim
 |panic ch=>simp[fine]at hfe
 |outgrown=>simp[fine]at hfe
section
variable {K:Ctx}{V:EnvF}{U:Nat->Prop}{φ:Nat->Value}{a:Act}{w:World}
theorem Ck (h:RelW K V U φ a w){q:Nat}{c0:Own}(hq0:V.own q=some c0){x:Operand}{sv:SV}{p:PV}(hx:V.get x=some sv)(hp:V.pv sv=some p)(hn:nr q (some sv)=true):Rep w (λb=> ¬VB (φ q) b) (a.eval x) p:=by
 obtain⟨hr,_⟩:=ah h hx;have hZ: ∀f b,Zf K V φ f b->¬VB (φ q) b:=λf b hb=>hb.1.2 q c0 hq0;cases sv with
 |val f p'=>simp only[EnvF.pv,E9]at hp;subst hp;exact Rep.mono (λb hb _=>⟨hZ f b hb,rfl⟩) hr
 |fix u p'=>simp only[EnvF.pv,E9]at hp;subst hp;exact Rep.mono (λb hb _=>⟨hZ false b hb,rfl⟩) hr.2
 |nilsl=>simp only[EnvF.pv,E9]at hp;subst hp;simp only[bg,aE]at hr;rw[hr];exact .nilsl
 |ref o=>
  have hne:o≠q:=(by simpa[nr]using hn);simp only[EnvF.pv]at hp;split at hp
  ·rename_i e sz fr rows ho;obtain rfl:=E7 hp;simp only[bg,aE]at hr;rw[hr];obtain⟨xs,hown,hl,h1,h2⟩:=h.own o _ ho;have hl':L2 (Rep w (λb=> ¬VB (φ q) b)) xs rows.flatten:=Rep.monoL (λb hb _=>⟨hZ fr b hb,rfl⟩) hl;have hlt:=hown.lt;have hcell:=λg hg=>hown.cells (g:=g) hg;rcases hown.2 with ⟨hv,hn⟩|⟨g,cap,cur,hv,_,hg,hnc,hcm,_⟩
   ·rw[hv];have:rows=[]:=EQ hn;subst this;exact .nilsl
   ·have hbl:VB (φ o) g:=(by rw[hv];exact .inl Y);rw[hv]at hcell hlt⊢;refine .sl g 0 cap sz rows xs (λe=>hne (h.dis o q _ _ g ho hq0 hbl e)) (hlt g Y).2 h1 h2 (λj v hj=> ?_) hnc hcm hl';have:=hcell g Y j v hj;rw[bE]at this;exact ce hg this
  ·cases hp
 |_=>simp[EnvF.pv]at hp
theorem B5 (h:RelW K V U φ a w){q:Nat}{c0:Own}(hq0:V.own q=some c0): ∀(xs:List Operand) (ps:List PV),cz V false xs=some ps->(xs.all λy=>nr q (V.get y))=true->L2 (Rep w (λb=> ¬VB (φ q) b)) (xs.map a.eval) ps
 | [],ps,hp,_=>by simp only[cz,E9]at hp;subst hp;exact .nil
 |x::rest,ps,hp,hn=>by
  simp only[Gn,EL]at hn;simp only[cz]at hp;split at hp
  ·rename_i p l hx hl;obtain rfl:=E7 hp;refine .cons ?_ (B5 h hq0 rest l hl hn.2);simp only[qO]at hx;split at hx
   ·rename_i sv hsv;rw[hsv]at hn;exact Ck h hq0 hsv hx hn.1
   ·cases hx
  ·cases hp
theorem f5: ∀(res:List PV) (vs:List Value),RV.vals (res.map RV.val) vs=[]
 | [],_=>by simp[RV.vals]
 |p::res,[]=>by simp[RV.vals]
 |p::res,v::vs=>by simpa[RV.vals]using f5 res vs
theorem f7 (fr:Bool): ∀(res:List PV),RV.owns fr (res.map RV.val)=[]
 | []=>rfl
 |p::res=>f7 fr res
end
theorem J.cm {K:Ctx}{ops:Array Oper}{o:Oper}{rest:List Oper}{sl:List (Nat×SV)}{ow:List (Nat×Option Own)}{nx:Nat}{R:St->Prop}{d:Nat}{x x0:Operand}{xs:List Operand}{args:Array Operand}{tys:Array TypeId}{f:FuncId}{fx fr:Bool}{q sz:Nat}{e:TypeId}{rows rows' rows2:List (List PV)}{ps ps' res:List PV}
  (ho:o.op= .call { callee:= .value x,args:=args,argTypes:=tys }) (hg:wants ops (St.mk sl ow nx).f o=some true) (hd:o.dst=some d) (hlt:K.can d=true) (hx:(St.mk sl ow nx).f.get x=some (.val fx (.fn (.func f) [] []))) (ha:args.toList=x0::xs)
  (h0:(St.mk sl ow nx).f.get x0=some (.ref q)) (hq:(St.mk sl ow nx).f.own q=some (.sl e sz fr rows2)) (hne:(xs.all λy=>nr q ((St.mk sl ow nx).f.get y))=true) (hspec:SpecM K.P f e sz rows ps' rows' res) (hrw:rows2=rows) (hps:cz (St.mk sl ow nx).f false xs=some ps) (hpe:ps=ps')
  (k:J K ops false rest ⟨(d,RV.one true nx (res.map .val))::sl,(q,some (.sl e sz fr rows'))::ow,nx⟩ R):J K ops false (o::rest) ⟨sl,ow,nx⟩ R:=by
 subst hrw hpe;refine⟨TO.mk λa w Q hr hQ=> ?_⟩;obtain⟨φ,hφ⟩:=hr;unfold wpList;rw[E6 (aH hφ hg)];refine .inl ?_;obtain⟨hrf,_⟩:=ah hφ hx;generalize hvx:a.eval x=vx at hrf;cases hrf with
 |fn _ vs us _ _ hf hc=>
 cases hf;cases hc;obtain⟨fn,hfn,hbody,hname⟩:=hspec.isFn;obtain⟨hr0,_⟩:=ah hφ h0;have hr0:a.eval x0=φ q:=hr0;have hrun:(execOp a.eval o).run K.P w= .ok (.enter f (φ q::xs.map a.eval).toArray) w:=by
  have hb:fn.body.isNone=false:=(by cases hfb:fn.body<;>simp_all);simp only[execOp,ho,resolve,hvx,Deferred.ofValue,EM,Ev,EG,invoke,callFunc,run_program,hfn,hname,hb,FC,if_false];congr 2;apply Array.ext';simp[ha,hr0]
 unfold Oper.wp;rw[hrun];have hoq:=hφ.own q _ hq;refine(hspec.out w (Zf K (St.mk sl ow nx).f φ fr) (φ q) (xs.map a.eval) hoq (λb hb=>hb.1.2 q _ hq) (B5 hφ hq xs ps hps hne)).mono ?_;rintro _ w' ⟨rs,rfl,hos,htape,hout,hsize,hblk,hown',hres⟩;let V':EnvF:=⟨(St.mk sl ow nx).f.slot,λi=>if i=q then some (.sl e sz fr rows')else(St.mk sl ow nx).f.own i⟩;have hrel:RelW K V' (· <nx) φ a w':=by
  refine hφ.step (λb=>VB (φ q) b) (λi=>i=q) Y (λ_ hu=>hu) (λ_ _=>rfl) hos htape hout hsize (λb hb hne=>hblk b hb hne) ?_ ?_ ?_ ?_
  ·intro b _ hb;exact⟨q,_,hq,hb,rfl⟩
  ·intro i c hi hne;simpa[V',hne]using hi
  ·intro i c hi hie;subst hie;simp only[V',E6,E9]at hi;subst hi;refine⟨hφ.inU i _ hq,?_,λg hg=> .inr ⟨i,_,hq,hg,rfl⟩⟩;obtain⟨xs',hwn,hl,h1,h2⟩:=hown';refine⟨xs',hwn,Rep.monoL (λb hb _=>⟨?_,rfl⟩) hl,h1,h2⟩;obtain⟨hb1,hb2⟩:=hb;refine⟨⟨?_,λj c hj hv=> ?_⟩,λhfr=> ?_⟩
   ·rcases hb1 with hb1|hb1;·exact hb1.1.1
    ·exact .inl (Em hφ.kept.size hb1)
   ·by_cases e:j=i;·subst e;exact hb2 hv
    ·simp only[V',E4 e]at hj;rcases hb1 with hb1|hb1;·exact hb1.1.2 j c hj hv
     ·have:=(hφ.own j c hj).lt hv;omega
   ·rcases hb1 with hb1|hb1;·exact hb1.2 hfr
    ·exact K.hF _ (Em hφ.kept.size hb1)
  ·intro i i' c c' g _ _ h1 h2 _ _;rw[h1,h2]
 have heach:L2 (RV1 w' (Zf K V' φ true)) rs (res.map .val):=by
  clear hQ k hrun hspec
  induction hres with
  |nil=>exact .nil
  |cons h1 _ ih=>exact .cons (Rep.mono (λb hb _=>hb.elim) h1) ih
 obtain⟨h1,h2⟩:=dO (U:=(· <nx)) (Z:=Zf K V' φ) (res.map .val) rs nx φ heach (λi v hi=>by rw[f5]at hi;simp at hi) (λi hi=>by rw[f7]at hi;simp at hi);obtain⟨h3,h4⟩:=fg h1 h2;refine(k.out).out _ _ Q ⟨φ,?_⟩ hQ;rw[hd];refine hrel.put hlt h3 h4 ?_ slot_put;funext i;simp only[V',St.f,ak];by_cases e:q=i;·subst e;simp
 ·rw[E4 e,E4 (Ne.symm e)]
section
variable {K:Ctx}{V:EnvF}{U:Nat->Prop}{φ:Nat->Value}{a:Act}{w:World}
def o6 (V:EnvF):List Operand->Option (List PV)
 | []=>some []
 |x::rest=>match V.get x,o6 V rest with
  |some sv,some l=>match sv.ff with
   |some (true,p)=>some (p::l)
   |_=>none
  |_,_=>none
theorem uA (h:RelW K V U φ a w): ∀(xs:List Operand) (ps:List PV),o6 V xs=some ps->L2 (Rep w (Zf K V φ true)) (xs.map a.eval) ps
 | [],ps,hp=>by simp only[o6,E9]at hp;subst hp;exact .nil
 |x::rest,ps,hp=>by
  simp only[o6]at hp;split at hp
  ·rename_i sv l hx hl;split at hp
   ·rename_i p hff;obtain rfl:=E7 hp;exact .cons (bK h hx hff) (uA h rest l hl)
   ·cases hp
  ·cases hp
end
theorem J.ct {K:Ctx}{ops:Array Oper}{o:Oper}{rest:List Oper}{sl:List (Nat×SV)}{ow:List (Nat×Option Own)}{nx:Nat}{R:St->Prop}{d:Nat}{x:Operand}{args:Array Operand}{tys:Array TypeId}{f:FuncId}{fx:Bool}{ps ps' res:List PV}
  (ho:o.op= .call { callee:= .value x,args:=args,argTypes:=tys }) (hg:wants ops (St.mk sl ow nx).f o=some true) (hd:o.dst=some d) (hlt:K.can d=true) (hx:(St.mk sl ow nx).f.get x=some (.val fx (.fn (.func f) [] [])))
  (hspec:Spec K.P f true ps' (res.map .val)) (hps:o6 (St.mk sl ow nx).f args.toList=some ps) (hpe:ps=ps')
  (k:J K ops false rest ⟨(d,RV.one true nx (res.map .val))::sl,ow,nx⟩ R):J K ops false (o::rest) ⟨sl,ow,nx⟩ R:=by
 subst hpe;refine⟨TO.mk λa w Q hr hQ=> ?_⟩;obtain⟨φ,hφ⟩:=hr;unfold wpList;rw[E6 (aH hφ hg)];refine .inl ?_;obtain⟨hrf,_⟩:=ah hφ hx;generalize hvx:a.eval x=vx at hrf;cases hrf with
 |fn _ vs us _ _ hf hc=>
 cases hf;cases hc;obtain⟨fn,hfn,hbody,hname⟩:=hspec.isFn;have hrun:(execOp a.eval o).run K.P w= .ok (.enter f (args.toList.map a.eval).toArray) w:=by
  have hb:fn.body.isNone=false:=(by cases hfb:fn.body<;>simp_all);simp only[execOp,ho,resolve,hvx,Deferred.ofValue,EM,Ev,EG,invoke,callFunc,run_program,hfn,hname,hb,FC,if_false];congr 2;apply Array.ext';simp
 unfold Oper.wp;rw[hrun];refine(hspec.out w (Zf K (St.mk sl ow nx).f φ true) _ (uA hφ _ _ hps)).mono ?_;rintro _ w' ⟨rs,rfl,hb,hret⟩;have hrel:=hφ.world hb;have hmono: ∀(Z Z':Nat->Prop),(∀b,Z b->Z' b)->∀(res:List PV) (rs:List Value),L2 (RV1 w' Z) rs (res.map RV.val)->L2 (RV1 w' Z') rs (res.map RV.val):=by
  intro Z Z' hz res
  induction res with
  |nil=>intro rs h;cases h;exact .nil
  |cons p res ih=>
   intro rs h;cases h with
   |cons h1 h2=>exact .cons (Rep.mono (λb hb _=>⟨hz b hb,rfl⟩) h1) (ih _ h2)
 have heach:L2 (RV1 w' (Zf K (St.mk sl ow nx).f φ true)) rs (res.map .val):=by
  refine hmono _ _ (λb hb=> ?_) res rs hret.each;obtain⟨hb1,_⟩:=hb;rcases hb1 with ⟨_,hb1⟩|hb1;·exact hb1
  ·refine⟨⟨.inl (Em hφ.kept.size hb1),λj c hj hv=> ?_⟩,λ_=>K.hF _ (Em hφ.kept.size hb1)⟩;have:=(hφ.own j c hj).lt hv;omega
 obtain⟨h1,h2⟩:=dO (U:=(· <nx)) (Z:=Zf K (St.mk sl ow nx).f φ) (res.map .val) rs nx φ heach (λi v hi=>by rw[f5]at hi;simp at hi) (λi hi=>by rw[f7]at hi;simp at hi);obtain⟨h3,h4⟩:=fg h1 h2;refine(k.out).out _ _ Q ⟨φ,?_⟩ hQ;rw[hd];exact hrel.put hlt h3 h4 Y slot_put
theorem J.wd1 {K:Ctx}{ops:Array Oper}{o:Oper}{rest:List Oper}{sl:List (Nat×SV)}{ow:List (Nat×Option Own)}{nx:Nat}{R:St->Prop}{α:Type}{enc:α->List PV}{l:List α}{z:α}{t e:TypeId}{x y:Operand}{q i st:Nat}{fr:Bool}{sy:SV}{fp:Bool}{p:PV}{inf:TypeInfo}
  (ho:o.op= .store t x y) (hg:wants ops (St.mk sl ow nx).f o=some true) (hd:o.dst=none) (hx:(St.mk sl ow nx).f.get x=some (.optr q i 0 st)) (hq:(St.mk sl ow nx).f.own q=some (.sl e st fr (l.map enc))) (hy:(St.mk sl ow nx).f.get y=some sy) (hp:sy.ff=some (fp,p))
  (hi:K.P.info? t=some inf) (hs:p.cells.length=inf.size) (hst:inf.size=st) (hz:p.cells=enc z) (hl: ∀y,(enc y).length=st) (hlt:i<l.length) (k:J K ops true rest ⟨sl,(q,some (.sl e st (fr&&fp) ((l.set i z).map enc)))::ow,nx⟩ R):J K ops true (o::rest) ⟨sl,ow,nx⟩ R:=by
 refine J.wd ho hg hd hx hq hy hp hi hs ?_ k;have h1:Nat.beq st st=true:=Hq st;have hzl:(enc z).length=st:=hl z;have h2:Nat.ble (0+p.cells.length) (enc l[i]).length=true:=(by simp[hz,hl]);have h3:putCells (enc l[i]) 0 p.cells=enc z:=by
  have:=iI p.cells [] (enc l[i]) (by simp[hz,hl]);rw[hz]at this⊢;simpa using this
 have h4:(l.map enc)[i]? =some (enc l[i]):=(by simp[hlt]);simp only[Own.put,h1,h4,h2,h3,Gy]
theorem T.scope {K:Ctx}{c:Code}{E:St}{Q:Exit->St->Prop}(hg: ∀l E,¬Q (.goto l) E)(h:T K c E Q):T K (.scope c) E Q:=
 ⟨λa w hr=>wp_scope_straight (wp_mono (h.out a w hr) λe a w hl=>by
  cases e with
  |goto l=>obtain⟨_,E',hq,_⟩:=hl;exact(hg l E' hq).elim
  |_=>exact hl)⟩
theorem Rel.fp {K:Ctx}{sl:List (Nat×SV)}{ow:List (Nat×Option Own)}{nx s:Nat}{fr:Bool}{cs:List PV}(hs:lk sl s=some (.fptr fr cs))(a:Act)(w:World)(h:Rel K ⟨sl,ow,nx⟩ a w):Rel K ⟨(s,.val fr (.ptr cs))::sl,ow,nx⟩ a w:=by
 obtain⟨φ,hφ⟩:=h;refine⟨φ,hφ.df,hφ.sz,hφ.old,hφ.kept,hφ.own,hφ.mine,hφ.inU,hφ.dis,?_,?_⟩
 ·intro t sv hsv;rcases slot_put t sv hsv with ⟨rfl,rfl⟩|⟨_,h⟩
  ·obtain⟨v,hv,b,o,xs,rfl,hz,hb,hl,h1,h2⟩:=hφ.slot t _ hs;exact⟨_,hv,Rep.ptr b o cs xs hz hb h1 h2 hl⟩
  ·exact hφ.slot t sv h
 ·intro t sv hsv;rcases slot_put t sv hsv with ⟨rfl,rfl⟩|⟨_,h⟩;·trivial
  ·exact hφ.sin t sv h
theorem J.mf {K:Ctx}{ops:Array Oper}{o:Oper}{rest:List Oper}{sl:List (Nat×SV)}{ow:List (Nat×Option Own)}{nx:Nat}{R:St->Prop}{d q:Nat}{f:FuncId}{x:Operand}{first caps:Array Operand}
  (ho:o.op= .makeFunc (.func f) first caps) (hg:wants ops (St.mk sl ow nx).f o=some true) (hd:o.dst=some d) (hlt:K.can d=true) (h1:first.toList=[x]) (h2:caps.toList=[]) (hx:(St.mk sl ow nx).f.get x=some (.ref q))
  (k:J K ops false rest ⟨(d,.fref f q)::sl,ow,nx⟩ R):J K ops false (o::rest) ⟨sl,ow,nx⟩ R:=by
 refine⟨TO.mk λa w Q hr hQ=> ?_⟩;obtain⟨φ,hφ⟩:=hr;unfold wpList;rw[E6 (aH hφ hg)];refine .inl ?_;obtain⟨hr0,hu⟩:=ah hφ hx;have hr0:a.eval x=φ q:=hr0;have e1:first= #[x]:=by cases first;simp_all
 have e2:caps= #[]:=(by cases caps;simp_all);have hrun:(execOp a.eval o).run K.P w= .ok (.value (.func (.func f) #[φ q] #[])) w:=by
  simp only[execOp,ho,e1,e2,Ha,Ek,Gx,hr0];simp[Instr.makeFunc]
 unfold Oper.wp;rw[hrun];refine(k.out).out _ _ Q ⟨φ,?_⟩ hQ;rw[hd];exact hφ.put hlt (sv:= .fref f q) Y hu Y slot_put
theorem J.cmf {K:Ctx}{ops:Array Oper}{o:Oper}{rest:List Oper}{sl:List (Nat×SV)}{ow:List (Nat×Option Own)}{nx:Nat}{R:St->Prop}{d:Nat}{x:Operand}{args:Array Operand}{tys:Array TypeId}{f:FuncId}{fr:Bool}{q sz:Nat}{e:TypeId}{rows rows' rows2:List (List PV)}{ps ps' res:List PV}
  (ho:o.op= .call { callee:= .value x,args:=args,argTypes:=tys }) (hg:wants ops (St.mk sl ow nx).f o=some true) (hd:o.dst=some d) (hlt:K.can d=true) (hx:(St.mk sl ow nx).f.get x=some (.fref f q))
  (hq:(St.mk sl ow nx).f.own q=some (.sl e sz fr rows2)) (hne:(args.toList.all λy=>nr q ((St.mk sl ow nx).f.get y))=true) (hspec:SpecM K.P f e sz rows ps' rows' res) (hrw:rows2=rows) (hps:cz (St.mk sl ow nx).f false args.toList=some ps) (hpe:ps=ps')
  (k:J K ops false rest ⟨(d,RV.one true nx (res.map .val))::sl,(q,some (.sl e sz fr rows'))::ow,nx⟩ R):J K ops false (o::rest) ⟨sl,ow,nx⟩ R:=by
 subst hrw hpe;refine⟨TO.mk λa w Q hr hQ=> ?_⟩;obtain⟨φ,hφ⟩:=hr;unfold wpList;rw[E6 (aH hφ hg)];refine .inl ?_;obtain⟨hrf,_⟩:=ah hφ hx;have hrf:a.eval x= .func (.func f) #[φ q] #[]:=hrf;obtain⟨fn,hfn,hbody,hname⟩:=hspec.isFn;have hrun:(execOp a.eval o).run K.P w= .ok (.enter f (φ q::args.toList.map a.eval).toArray) w:=by
  have hb:fn.body.isNone=false:=(by cases hfb:fn.body<;>simp_all);simp only[execOp,ho,resolve,hrf,Deferred.ofValue,EM,Ev,EG,invoke,callFunc,run_program,hfn,hname,hb,FC,if_false];congr 2;apply Array.ext';simp
 unfold Oper.wp;rw[hrun];have hoq:=hφ.own q _ hq;refine(hspec.out w (Zf K (St.mk sl ow nx).f φ fr) (φ q) (args.toList.map a.eval) hoq (λb hb=>hb.1.2 q _ hq) (B5 hφ hq args.toList ps hps hne)).mono ?_;rintro _ w' ⟨rs,rfl,hos,htape,hout,hsize,hblk,hown',hres⟩;let V':EnvF:=⟨(St.mk sl ow nx).f.slot,λi=>if i=q then some (.sl e sz fr rows')else(St.mk sl ow nx).f.own i⟩;have hrel:RelW K V' (· <nx) φ a w':=by
  refine hφ.step (λb=>VB (φ q) b) (λi=>i=q) Y (λ_ hu=>hu) (λ_ _=>rfl) hos htape hout hsize (λb hb hne=>hblk b hb hne) ?_ ?_ ?_ ?_
  ·intro b _ hb;exact⟨q,_,hq,hb,rfl⟩
  ·intro i c hi hne;simpa[V',hne]using hi
  ·intro i c hi hie;subst hie;simp only[V',E6,E9]at hi;subst hi;refine⟨hφ.inU i _ hq,?_,λg hg=> .inr ⟨i,_,hq,hg,rfl⟩⟩;obtain⟨xs',hwn,hl,h1,h2⟩:=hown';refine⟨xs',hwn,Rep.monoL (λb hb _=>⟨?_,rfl⟩) hl,h1,h2⟩;obtain⟨hb1,hb2⟩:=hb;refine⟨⟨?_,λj c hj hv=> ?_⟩,λhfr=> ?_⟩
   ·rcases hb1 with hb1|hb1;·exact hb1.1.1
    ·exact .inl (Em hφ.kept.size hb1)
   ·by_cases e:j=i;·subst e;exact hb2 hv
    ·simp only[V',E4 e]at hj;rcases hb1 with hb1|hb1;·exact hb1.1.2 j c hj hv
     ·have:=(hφ.own j c hj).lt hv;omega
   ·rcases hb1 with hb1|hb1;·exact hb1.2 hfr
    ·exact K.hF _ (Em hφ.kept.size hb1)
  ·intro i i' c c' g _ _ h1 h2 _ _;rw[h1,h2]
 have heach:L2 (RV1 w' (Zf K V' φ true)) rs (res.map .val):=by
  clear hQ k hrun hspec
  induction hres with
  |nil=>exact .nil
  |cons h1 _ ih=>exact .cons (Rep.mono (λb hb _=>hb.elim) h1) ih
 obtain⟨h1,h2⟩:=dO (U:=(· <nx)) (Z:=Zf K V' φ) (res.map .val) rs nx φ heach (λi v hi=>by rw[f5]at hi;simp at hi) (λi hi=>by rw[f7]at hi;simp at hi);obtain⟨h3,h4⟩:=fg h1 h2;refine(k.out).out _ _ Q ⟨φ,?_⟩ hQ;rw[hd];refine hrel.put hlt h3 h4 ?_ slot_put;funext i;simp only[V',St.f,ak];by_cases e:q=i;·subst e;simp
 ·rw[E4 e,E4 (Ne.symm e)]
section
variable {K:Ctx}{sl:List (Nat×SV)}{ow:List (Nat×Option Own)}{nx:Nat}{a:Act}{w:World}
theorem RelW.reslot {V V':EnvF}{U:Nat->Prop}{φ:Nat->Value}(h:RelW K V U φ a w){s:Nat}{v:Value}{sv:SV}(hv:a.tmps.getD s undef=v)(hr:bg w (Zf K V φ) φ v sv)(hl:sv.inU U)(hown:V'.own=V.own)
  (hslot: ∀t sv',V'.slot t=some sv'->(t=s/\sv'=sv)∨(t≠s/\V.slot t=some sv')):RelW K V' U φ a w:=by
 have hZ:Zf K V' φ=Zf K V φ:=(by funext f b;simp only[Zf,Zof,hown]);refine⟨h.df,h.sz,h.old,h.kept,?_,?_,?_,?_,?_,?_⟩;·rw[hZ,hown];exact h.own
 ·rw[hown];exact h.mine
 ·rw[hown];exact h.inU
 ·rw[hown];exact h.dis
 ·intro t sv' ht;rcases hslot t sv' ht with ⟨rfl,rfl⟩|⟨_,h2⟩;·exact⟨v,hv,by rw[hZ];exact hr⟩
  ·rw[hZ];exact h.slot t sv' h2
 ·intro t sv' ht;rcases hslot t sv' ht with ⟨rfl,rfl⟩|⟨_,h2⟩;·exact hl
  ·exact h.sin t sv' h2
theorem e6 {V:EnvF}{U:Nat->Prop}{φ:Nat->Value}(h:RelW K V U φ a w){g:Nat}(hg:true=true): ∃v,a.tmps.getD g undef=v:=⟨_,rfl⟩
def SV.num:SV->Option Nat
 | .ref o=>some o
 | .optr o 0 0 0=>some o
 | .eq _ o=>some o
 |_=>none
theorem Dd {U:Nat->Prop}{s:SV}{o:Nat}(h:s.inU U)(hn:s.num=some o):U o:=by
 cases s with
 |ref q=>simp only[SV.num,E9]at hn;subst hn;exact h
 |optr q i off st=>
  simp only[SV.num]at hn;split at hn;·rename_i e;cases e
  ·rename_i e;cases e;cases hn;exact h
  ·rename_i e;cases e
  ·cases hn
 |eq u q=>simp only[SV.num,E9]at hn;subst hn;exact h
 |_=>simp[SV.num]at hn
theorem Rel.name (g:Nat){s o:Nat}{sv:SV}(hg:true=true)(hs:lk sl s=some sv)(hn:sv.num=some o)(h:Rel K ⟨sl,ow,nx⟩ a w): ∃u,Rel K ⟨(g,.eq u o)::sl,ow,nx⟩ a w:=by
 obtain⟨φ,hφ⟩:=h;obtain⟨v,hv⟩:=e6 hφ hg;exact⟨φ o,φ,hφ.reslot (sv:= .eq (φ o) o) hv Y (Dd (U:=(· <nx)) (hφ.sin s sv hs) hn) Y slot_put⟩
theorem T.name {c:Code}{Q:Exit->St->Prop}(g:Nat){s o:Nat}{sv:SV}(hg:true=true)(hs:lk sl s=some sv)(hn:sv.num=some o)(k: ∀u,T K c ⟨(g,.eq u o)::sl,ow,nx⟩ Q):T K c ⟨sl,ow,nx⟩ Q:=
 ⟨λa w hr=>by obtain⟨u,h⟩:=Rel.name g hg hs hn hr;exact(k u).out a w h⟩
theorem J.name {ops:Array Oper}{l:List Oper}{R:St->Prop}(g:Nat){s o:Nat}{sv:SV}(hg:true=true)(hs:lk sl s=some sv)(hn:sv.num=some o)(k: ∀u,J K ops false l ⟨(g,.eq u o)::sl,ow,nx⟩ R):J K ops false l ⟨sl,ow,nx⟩ R:=
 ⟨TO.mk λa w Q hr hQ=>by obtain⟨u,h⟩:=Rel.name g hg hs hn hr;exact(k u).out.out a w Q h hQ⟩
theorem Rel.raw {s g o:Nat}{u:Value}{c:Own}{sv:SV}(hs:lk sl s=some sv)(hn:sv= .ref o∨sv= .optr o 0 0 0)(hg:lk sl g=some (.eq u o))(ho:(St.mk sl ow nx).f.own o=some c)(hc:(match c with| .fam .. =>false| .box .. =>true|_=>(match sv with| .ref _=>true|_=>false))=true)(a:Act)(w:World)(h:Rel K ⟨sl,ow,nx⟩ a w):
  Rel K ⟨(s,.val true (.raw u))::sl,ow,nx⟩ a w:=by
 obtain⟨φ,hφ⟩:=h;obtain⟨v,hv,hr⟩:=hφ.slot s sv hs;obtain⟨_,_,he⟩:=hφ.slot g _ hg;have he:φ o=u:=he;have hown:=hφ.own o c ho;have hone:(φ o).oneCell'=true/\v=φ o:=by
  cases c with
  |sl e sz fr rows=>
   obtain⟨xs,h1,_⟩:=hown;constructor;·rcases h1.2 with ⟨e,_⟩|⟨g',cap,cur,e,_⟩<;>rw[e]<;>rfl
   ·rcases hn with rfl|rfl;·exact hr
    ·simp at hc
  |box fr row=>
   obtain⟨g',t,cur,e,_⟩:=hown;constructor;·rw[e];rfl
   ·rcases hn with rfl|rfl;·exact hr
    ·obtain⟨g2,h2,h3⟩:=hr;rw[e]at h2⊢;simp[aC]at h2;subst h2;simpa using h3
  |fam e sz fr l=>simp at hc
  |mp fr b l=>
   obtain⟨g',es,clock,e,_⟩:=hown;refine⟨by rw[e];rfl,?_⟩;rcases hn with rfl|rfl;·exact hr
   ·simp at hc
  |it m since seen last=>
   obtain⟨g',e,_⟩:=hown;refine⟨by rw[e];rfl,?_⟩;rcases hn with rfl|rfl;·exact hr
   ·simp at hc
  |sit s pos=>
   obtain⟨g',e,_⟩:=hown;refine⟨by rw[e];rfl,?_⟩;rcases hn with rfl|rfl;·exact hr
   ·simp at hc
 refine⟨φ,hφ.reslot (sv:= .val true (.raw u)) hv ?_ trivial Y slot_put⟩;show Rep w _ v (.raw u);rw[hone.2,he];exact .raw u (he▸hone.1)
theorem Rel.deraw {s g o:Nat}{u:Value}{fr:Bool}(hs:lk sl s=some (.val fr (.raw u)))(hg:lk sl g=some (.eq u o))(a:Act)(w:World)(h:Rel K ⟨sl,ow,nx⟩ a w):Rel K ⟨(s,.ref o)::sl,ow,nx⟩ a w:=by
 obtain⟨φ,hφ⟩:=h;obtain⟨v,hv,hr⟩:=hφ.slot s _ hs;obtain⟨_,_,he⟩:=hφ.slot g _ hg;have he:φ o=u:=he;have hr:Rep w _ v (.raw u):=hr;refine⟨φ,hφ.reslot (sv:= .ref o) hv ?_ (hφ.sin g (.eq u o) hg) Y slot_put⟩;show v=φ o;cases hr;exact he.symm
theorem Rel.derawp {s g o:Nat}{u:Value}{fr fr':Bool}{row:List PV}(hs:lk sl s=some (.val fr (.raw u)))(hg:lk sl g=some (.eq u o))(ho:(St.mk sl ow nx).f.own o=some (.box fr' row))(a:Act)(w:World)(h:Rel K ⟨sl,ow,nx⟩ a w):Rel K ⟨(s,.optr o 0 0 0)::sl,ow,nx⟩ a w:=by
 obtain⟨φ,hφ⟩:=h;obtain⟨v,hv,hr⟩:=hφ.slot s _ hs;obtain⟨_,_,he⟩:=hφ.slot g _ hg;have he:φ o=u:=he;have hr:Rep w _ v (.raw u):=hr;obtain⟨g',t,cur,e,_⟩:=hφ.own o _ ho;refine⟨φ,hφ.reslot (sv:= .optr o 0 0 0) hv ?_ (hφ.sin g (.eq u o) hg) Y slot_put⟩;refine⟨g',by rw[e];rfl,?_⟩;cases hr;rw[<-he,e]
end
def Own.fr:Own->Bool
 | .sl _ _ fr _=>fr
 | .box fr _=>fr
 | .fam _ _ fr _=>fr
 | .mp fr _ _=>fr
 | .it .. =>true
 | .sit .. =>true
def Own.reg (f:Bool):Own->Own
 | .sl e sz _ rows=> .sl e sz f rows
 | .box _ row=> .box f row
 | .fam e sz _ l=> .fam e sz f l
 | .mp _ b l=> .mp f b l
 | .it m since seen last=> .it m since seen last
 | .sit s pos=> .sit s pos
theorem pO {w:World}{Zb:Bool->Nat->Prop}{Z:Nat->Prop}{u:Value}{c:Own}(h:aA w Zb u c)(hz: ∀b,Zb c.fr b->Z b):aA w (λ_=>Z) u c:=by
 cases c with
 |sl e sz fr rows=>
  have h:dR w (Zb fr) u e sz rows:=h;show dR w Z u e sz rows;exact h.mono (λ_ _=>rfl) λb hb _=>⟨hz b hb,rfl⟩
 |box fr row=>
  obtain⟨g',t,cur,rfl,hh,hr,h1⟩:=h;exact⟨g',t,cur,rfl,hh,Rep.monoL (λb hb _=>⟨hz b hb,rfl⟩) hr,h1⟩
 |fam e sz fr l=>
  obtain⟨rfl,h,h1⟩:=h;exact⟨rfl,λp hp=>(h p hp).mono (λ_ _=>rfl) λb hb _=>⟨hz b hb,rfl⟩,h1⟩
 |mp fr b l=>
  obtain⟨g',es,clock,rfl,hh,hr,h1⟩:=h;exact⟨g',es,clock,rfl,hh,hr.imp λ_ _ h=>⟨h.1,h.2.mono λb hb _=>⟨hz b hb,rfl⟩⟩,h1⟩
 |it m since seen last=>exact h
 |sit s pos=>exact h
theorem ip {w:World}{Zb:Bool->Nat->Prop}{Z:Nat->Prop}{f:Bool}{u:Value}{c:Own}(h:aA w (λ_=>Z) u c)(hz: ∀b,Z b->Zb f b):aA w Zb u (c.reg f):=by
 cases c with
 |sl e sz fr rows=>
  have h:dR w Z u e sz rows:=h;show dR w (Zb f) u e sz rows;exact h.mono (λ_ _=>rfl) λb hb _=>⟨hz b hb,rfl⟩
 |box fr row=>
  obtain⟨g',t,cur,rfl,hh,hr,h1⟩:=h;exact⟨g',t,cur,rfl,hh,Rep.monoL (λb hb _=>⟨hz b hb,rfl⟩) hr,h1⟩
 |fam e sz fr l=>
  obtain⟨rfl,h,h1⟩:=h;exact⟨rfl,λp hp=>(h p hp).mono (λ_ _=>rfl) λb hb _=>⟨hz b hb,rfl⟩,h1⟩
 |mp fr b l=>
  obtain⟨g',es,clock,rfl,hh,hr,h1⟩:=h;exact⟨g',es,clock,rfl,hh,hr.imp λ_ _ h=>⟨h.1,h.2.mono λb hb _=>⟨hz b hb,rfl⟩⟩,h1⟩
 |it m since seen last=>exact h
 |sit s pos=>exact h
def Off (us:List Value)(b:Nat):Prop:= ∀u,u∈us->¬VB u b
def ib (us:List Value):Prop:= ∀(i j:Nat) (u v:Value) (g:Nat),us[i]? =some u->us[j]? =some v->VB u g->VB v g->i=j
structure SpecO (P:Program)(f:FuncId)(al:Bool)(us:List Value)(cs:List Own)(args:List PV)(cs':List Own)(news:List Value->List Own)(res:List Value->List PV):Prop where
 isFn: ∃fn,P.funcs[f]? =some fn/\fn.body.isSome=true/\(fn.name== "runtime.NumGoroutine")=false
 out: ∀(w:World) (Z1:Nat->Prop) (vs:List Value),L2 (aA w λ_=>Z1) us cs->ib us->(∀b,Z1 b->Off us b)->L2 (Rep w λb=>Off us b/\(al=true->Z1 b)) vs args->
  Calls P f vs.toArray w λx w'=> ∃rs ns:List Value,x= .returned (mR rs)/\w'.os=w.os/\w'.tape=w.tape/\w'.output=w.output/\w.heap.size<=w'.heap.size/\(∀b,b<w.heap.size->Off us b->w'.heap[b]? =w.heap[b]?)/\
   L2 (aA w' λ_ b=>(Z1 b∨w.heap.size<=b)/\Off (us++ns) b) us cs'/\L2 (aA w' λ_ b=>(Z1 b∨w.heap.size<=b)/\Off (us++ns) b) ns (news ns)/\(∀u g,u∈ns->VB u g->w.heap.size<=g)/\ib ns/\
   L2 (Rep w' λb=>(Z1 b∨w.heap.size<=b)/\Off (us++ns) b) rs (res ns)
def mq (f:Bool):Nat->List PV->List (Nat×SV)
 |_,[]=>[]
 |k,p::ps=>(k,.val f p)::mq f (k+1) ps
def x3:Nat->List Nat->List Value->List (Nat×SV)
 |i,g::gs,u::us=>(g,.eq u i)::x3 (i+1) gs us
 |_,_,_=>[]
def vu:Nat->List Own->List (Nat×Option Own)
 |_,[]=>[]
 |i,c::cs=>(i,some (c.reg true))::vu (i+1) cs
def yY (al:Bool)(gs:List Nat)(us:List Value)(cs:List Own)(args:List PV):St:=⟨mq al 0 args++x3 0 gs us,vu 0 cs,cs.length⟩
def qS (E:EnvF):List Nat->List Value->List Own->List Nat->Prop
 |g::gs,u::us,c::cs,q::qs=>E.slot g=some (.eq u q)/\E.own q=some c/\c.fr=true/\qS E gs us cs qs
 | [],[],[],[]=>True
 |_,_,_,_=>False
def Eg (P:Program)(fn:Func)(us:List Value)(gs:List Nat)(cs':List Own)(news:List Value->List Own)(hs:List Nat)(res:List Value->List PV)(x:Exit)(E:St):Prop:=
 match x with
 | .normal| .ret=> ∃(qs rs:List Nat) (ns:List Value),qS E.f gs us cs' qs/\qS E.f hs ns (news ns) rs/\dup (qs++rs)=false/\Ret P E.f false fn.results.toList ((res ns).map .val) []
 |_=>False
def Ctx.ofO (P:Program)(w0:World)(us:List Value)(Z1:Nat->Prop)(n:Nat):Ctx:=⟨P,w0,Off us,λb=> ∃u,u∈us/\VB u b,n,λb=>w0.heap.size<=b∨Z1 b,λ_ h=> .inl h,0,[],[]⟩
theorem lk_app {α:Type}: ∀(a b:List (Nat×α)) (s:Nat) (v:α),lk (a++b) s=some v->lk a s=some v∨lk b s=some v
 | [],b,s,v,h=> .inr h
 |(k,x)::a,b,s,v,h=>by
  rw[Fj,ak]at h;rw[ak];by_cases e:k=s;·rw[E6 e]at h⊢;exact .inl h
  ·rw[E4 e]at h⊢;exact lk_app a b s v h
theorem qb {f:Bool}: ∀(ps:List PV) (k s:Nat) (sv:SV),lk (mq f k ps) s=some sv->∃j p,s=k+j/\ps[j]? =some p/\sv= .val f p
 | [],k,s,sv,h=>by simp[mq,lk]at h
 |p::ps,k,s,sv,h=>by
  simp only[mq,ak]at h;by_cases e:k=s
  ·rw[E6 e]at h;obtain rfl:=E7 h;exact⟨0,p,by omega,by simp,rfl⟩
  ·rw[E4 e]at h;obtain⟨j,q,h1,h2,h3⟩:=qb ps (k+1) s sv h;exact⟨j+1,q,by omega,by simpa using h2,h3⟩
theorem mg: ∀(gs:List Nat) (us:List Value) (i s:Nat) (sv:SV),lk (x3 i gs us) s=some sv->∃j u,s∈gs/\us[j]? =some u/\sv= .eq u (i+j)
 | [],us,i,s,sv,h=>by simp[x3,lk]at h
 |g::gs,[],i,s,sv,h=>by simp[x3,lk]at h
 |g::gs,u::us,i,s,sv,h=>by
  simp only[x3,ak]at h;by_cases e:g=s
  ·rw[E6 e]at h;obtain rfl:=E7 h;exact⟨0,u,by simp[e],by simp,rfl⟩
  ·rw[E4 e]at h;obtain⟨j,v,h1,h2,h3⟩:=mg gs us (i+1) s sv h;exact⟨j+1,v,.tail _ h1,by simpa using h2,by rw[h3];congr 1;omega⟩
theorem vR: ∀(cs:List Own) (i o:Nat) (c:Own),(lk (vu i cs) o).join=some c->∃j c0,o=i+j/\cs[j]? =some c0/\c=c0.reg true
 | [],i,o,c,h=>by simp[vu,lk]at h
 |c0::cs,i,o,c,h=>by
  simp only[vu,ak]at h;by_cases e:i=o
  ·rw[E6 e]at h;exact⟨0,c0,by omega,by simp,(E7 h).symm⟩
  ·rw[E4 e]at h;obtain⟨j,c1,h1,h2,h3⟩:=vR cs (i+1) o c h;exact⟨j+1,c1,by omega,by simpa using h2,h3⟩
theorem jG {E:EnvF}: ∀{gs:List Nat} {us:List Value} {cs:List Own} {qs:List Nat},qS E gs us cs qs->∀(i:Nat) (u:Value),us[i]? =some u->∃q c g,qs[i]? =some q/\cs[i]? =some c/\E.own q=some c/\c.fr=true/\E.slot g=some (.eq u q)
 |g::gs,u::us,c::cs,q::qs,h,i,v,hv=>by
  obtain⟨h1,h2,h3,h4⟩:=h;cases i with
  |zero=>simp at hv;subst hv;exact⟨q,c,g,rfl,rfl,h2,h3,h1⟩
  |succ i=>simp at hv;simpa using jG h4 i v hv
 | [],[],[],[],_,i,v,hv=>by simp at hv
theorem ni {E:EnvF}{R:Value->Own->Prop}: ∀{gs:List Nat} {us:List Value} {cs:List Own} {qs:List Nat},qS E gs us cs qs->(∀u q c g,u∈us->E.slot g=some (.eq u q)->E.own q=some c->c.fr=true->R u c)->L2 R us cs
 |g::gs,u::us,c::cs,q::qs,h,hr=>by
  obtain⟨h1,h2,h3,h4⟩:=h;exact .cons (hr u q c g (.head _) h1 h2 h3) (ni h4 λu q c g hu=>hr u q c g (.tail _ hu))
 | [],[],[],[],_,_=> .nil
theorem pB {K:Ctx}{E:EnvF}{U:Nat->Prop}{φ:Nat->Value}{a:Act}{w:World}(h:RelW K E U φ a w): ∀{rs:List ResultVar} {res:List PV},Ret K.P E false rs (res.map .val) []->
  ∃ws:List Value,(rs.mapM (cE a.tmps)).run K.P w= .ok ws w/\L2 (Rep w (Zf K E φ true)) ws res
 | [],[],_=>⟨[],rfl,.nil⟩
 |_::rs,p::res,hr=>by
  have hstep: ∀{t:ResultVar},(∃v,(cE a.tmps t).run K.P w= .ok v w/\Rep w (Zf K E φ true) v p)->Ret K.P E false rs (res.map .val) []->∃ws:List Value,((t::rs).mapM (cE a.tmps)).run K.P w= .ok ws w/\L2 (Rep w (Zf K E φ true)) ws (p::res):=by
   rintro t ⟨v,hv,hrep⟩ hrest;obtain⟨ws,h1,h2⟩:=pB h hrest;refine⟨v::ws,?_,.cons hrep h2⟩;simp only[Gf,EM,hv,EG,h1,Ev]
  cases hr with
  | @val t sv fr _ _ _ _ hs hff hfr hrest=>
   obtain rfl:=hfr Y;have hx:E.get (.tmp t)=some sv:=hs;exact hstep ⟨_,by simp only[cE,Ev];rfl,bK h hx hff⟩ hrest
  | @cell t ty q fr row _ _ _ _ hs hq hp hfr hrest=>
   obtain rfl:=hfr Y;refine hstep ?_ hrest;obtain⟨v,hv,g,hg,e⟩:=h.slot t _ hs;have hat:(Own.box true row).at_ 0 0 0=some (true,row):=rfl;have hc:=jZ (h.own q _ hq) hat hg;obtain⟨u,hu,hrep⟩:=gz hc hp;refine⟨u,?_,hrep⟩;have e2:a.tmps.getD t undef= .pointer (some ⟨g,0,none⟩):=by
    rw[hv,e]
   simp only[cE,e2,asAddr,EM,Ev,EG];simpa[Instr.loadAt,Instr.sureAddr]using hu
 | [],_::_,hr=>by cases hr
 |_::_,[],hr=>by cases hr
theorem SpecO.body {P:Program} {f:FuncId} {fn:Func} {c:Code} {al:Bool} {us:List Value} {cs cs':List Own} {news:List Value->List Own} {args:List PV} {res:List Value->List PV} (gs hs:List Nat) (hf:P.funcs[f]? =some fn) (hb:fn.body=some c) (hn:(fn.name== "runtime.NumGoroutine")=false) (hl:Nat.ble args.length fn.ntmps=true)
  (hgs:true=true) (h: ∀w0 Z1,T (Ctx.ofO P w0 us Z1 fn.ntmps) c (yY al gs us cs args) (Eg P fn us gs cs' news hs res)):SpecO P f al us cs args cs' news res:=by
 refine⟨⟨fn,hf,by rw[hb];rfl,hn⟩,λw Z1 vs hown hap hz1 hvs=> ?_⟩;have hle:=F3 hl;have hvl:=hvs.length;have hul:=hown.length;refine calls_of_wp hf hb ?_;let φ0:Nat->Value:=λi=>us.getD i undef;have hφ0: ∀j u,us[j]? =some u->φ0 j=u:=λj u hu=>(by simp[φ0,E0,hu]);have hown0: ∀o c,(yY al gs us cs args).f.own o=some c->∃c0 u,cs[o]? =some c0/\us[o]? =some u/\c=c0.reg true/\φ0 o=u/\aA w (λ_=>Z1) u c0:=by
  intro o c ho;obtain⟨j,c0,h1,h2,h3⟩:=vR cs 0 o c ho;obtain rfl:o=j:=(by omega);obtain⟨u,hu,hr⟩:=hown.get h2;exact⟨c0,u,h2,hu,h3,hφ0 _ _ hu,hr⟩
 have hoff: ∀b,Off us b->∀o c,(yY al gs us cs args).f.own o=some c->¬VB (φ0 o) b:=by
  intro b hb o c ho;obtain⟨_,u,_,hu,_,e,_⟩:=hown0 o c ho;rw[e];exact hb u (EC hu)
 have hrel:Rel (Ctx.ofO P w us Z1 fn.ntmps) (yY al gs us cs args) { tmps:=vs.toArray++Array.replicate (fn.ntmps-vs.toArray.size) undef,defers:=[] } w:=by
  have hsz:(vs.toArray++Array.replicate (fn.ntmps-vs.toArray.size) undef).size=fn.ntmps:=(by simp;omega);have ht: ∀(j:Nat) v,vs[j]? =some v->(vs.toArray++Array.replicate (fn.ntmps-vs.toArray.size) undef)[j]? =some v:=by
   intro j v hv;have hj:j<vs.length:=(E8.1 hv).1;rw[GK (by simpa using hj)];simpa using hv
  have htd: ∀(j:Nat) v,vs[j]? =some v->(vs.toArray++Array.replicate (fn.ntmps-vs.toArray.size) undef).getD j undef=v:=λj v h=>(by rw[F8,ht j v h];rfl);refine⟨φ0,rfl,hsz,λs v hs=>EX hs (FK s),⟨rfl,rfl,rfl,EO _,λ_ _ _=>rfl⟩,?_,?_,?_,?_,?_,?_⟩
  ·intro o c ho;obtain⟨c0,u,h1,h2,rfl,e,hr⟩:=hown0 o c ho;rw[e];exact ip hr λb hb=>⟨⟨.inr (hz1 b hb),hoff b (hz1 b hb)⟩,λ_=> .inr hb⟩
  ·intro o c g ho hg;obtain⟨_,u,_,hu,_,e,_⟩:=hown0 o c ho;rw[e]at hg;exact .inr ⟨u,EC hu,hg⟩
  ·intro o c ho;obtain⟨_,u,h1,_⟩:=hown0 o c ho;exact(E8.1 h1).1
  ·intro o o' c c' g ho ho' hg hg';obtain⟨_,u,_,hu,_,e,_⟩:=hown0 o c ho;obtain⟨_,u',_,hu',_,e',_⟩:=hown0 o' c' ho';rw[e]at hg;rw[e']at hg';exact hap o o' u u' g hu hu' hg hg'
  ·intro s sv hs;rcases lk_app _ _ s sv hs with h1|h1
   ·obtain⟨j,p,rfl,hp,rfl⟩:=qb args 0 s sv h1;obtain⟨v,hv,hr⟩:=hvs.get hp;refine⟨v,htd (0+j) v (by simpa using hv),?_⟩;exact Rep.mono (λb hb _=>⟨⟨⟨.inr hb.1,hoff b hb.1⟩,λe=> .inr (hb.2 e)⟩,rfl⟩) hr
   ·obtain⟨j,u,h2,h3,rfl⟩:=mg gs us 0 s sv h1;exact⟨_,rfl,by show φ0 (0+j)=u;rw[Fy];exact hφ0 j u h3⟩
  ·intro s sv hs;rcases lk_app _ _ s sv hs with h1|h1
   ·obtain⟨j,p,rfl,hp,rfl⟩:=qb args 0 s sv h1;trivial
   ·obtain⟨j,u,h2,h3,rfl⟩:=mg gs us 0 s sv h1;have:j<us.length:=(E8.1 h3).1;show 0+j<cs.length;omega
 refine wp_mono ((h w Z1).out _ w hrel) λx a w' ⟨hfe,E,hq,φ,hφ⟩=> ?_;have key:(∃(qs rs:List Nat) (ns:List Value),qS E.f gs us cs' qs/\qS E.f hs ns (news ns) rs/\dup (qs++rs)=false/\Ret P E.f false fn.results.toList ((res ns).map .val) [])->
   a.defers=[]/\∃v,(results fn a.tmps).run P w'= .ok v w'/\∃rs ns:List Value,Ending.returned v= .returned (mR rs)/\w'.os=w.os/\w'.tape=w.tape/\w'.output=w.output/\w.heap.size<=w'.heap.size/\(∀b,b<w.heap.size->Off us b->w'.heap[b]? =w.heap[b]?)/\
   L2 (aA w' λ_ b=>(Z1 b∨w.heap.size<=b)/\Off (us++ns) b) us cs'/\L2 (aA w' λ_ b=>(Z1 b∨w.heap.size<=b)/\Off (us++ns) b) ns (news ns)/\(∀u g,u∈ns->VB u g->w.heap.size<=g)/\ib ns/\
   L2 (Rep w' λb=>(Z1 b∨w.heap.size<=b)/\Off (us++ns) b) rs (res ns):=by
  rintro⟨qs,rs,ns,hk1,hk2,hdup,hret⟩;obtain⟨ws,h1,h2⟩:=pB hφ hret;have hk:=hφ.kept;have heq: ∀g u q,E.f.slot g=some (.eq u q)->φ q=u:=λg u q hg=>(by obtain⟨_,_,e⟩:=hφ.slot g _ hg;exact e);have hzz: ∀b,Zf (Ctx.ofO P w us Z1 fn.ntmps) E.f φ true b->(Z1 b∨w.heap.size<=b)/\Off (us++ns) b:=by
   intro b hb;refine⟨(hb.2 Y).elim .inr .inl,λu hu=> ?_⟩;rcases EW.1 hu with hu|hu
   ·obtain⟨i,hi⟩:=EK hu;obtain⟨q,c,g,_,_,h3,_,h5⟩:=jG hk1 i u hi;rw[<-heq g u q h5];exact hb.1.2 q c h3
   ·obtain⟨i,hi⟩:=EK hu;obtain⟨q,c,g,_,_,h3,_,h5⟩:=jG hk2 i u hi;rw[<-heq g u q h5];exact hb.1.2 q c h3
  have hto: ∀u q c g,E.f.slot g=some (.eq u q)->E.f.own q=some c->c.fr=true->aA w' (λ_ b=>(Z1 b∨w.heap.size<=b)/\Off (us++ns) b) u c:=by
   intro u q c g hg ho hfr;rw[<-heq g u q hg];exact pO (hφ.own q c ho) (by rw[hfr];exact hzz)
  have hinj:=fW (qs++rs) hdup;have hat: ∀i u,ns[i]? =some u->∃q c,rs[i]? =some q/\E.f.own q=some c/\φ q=u:=λi u hi=>by
   obtain⟨q,c,g,h3,_,h4,_,h5⟩:=jG hk2 i u hi;exact⟨q,c,h3,h4,heq g u q h5⟩
  refine⟨hφ.df,mR ws,?_,ws,ns,rfl,hk.os,hk.tape,hk.output,hk.size,λb hb hne=>hk.block b hb (λ⟨u,hu,hv⟩=>hne u hu hv),ni hk1 λu q c g _ hg ho hfr=>hto u q c g hg ho hfr,ni hk2 λu q c g _ hg ho hfr=>hto u q c g hg ho hfr,?_,?_,h2.imp λv p hp=>Rep.mono (λb hb _=>⟨hzz b hb,rfl⟩) hp⟩
  ·have e:results fn a.tmps=(do let vs<-fn.results.mapM (cE a.tmps);pure (if h:vs.size=1 then vs[0]else .tuple vs)):=by
    unfold results;congr
   have h1':(fn.results.toList.mapM (cE a.tmps)).run P w'= .ok ws w':=h1;rw[e,GR];simp only[EM,Hy,h1',EG];cases ws with
   |nil=>rfl
   |cons v ws=>cases ws with
    |nil=>rfl
    |cons v' ws=>rfl
  ·intro u g hu hg;obtain⟨i,hi⟩:=EK hu;obtain⟨q,c,h3,h4,rfl⟩:=hat i u hi;rcases hφ.mine q c g h4 hg with hge|⟨v,hv,hvg⟩;·exact hge
   ·exfalso;obtain⟨j,hj⟩:=EK hv;obtain⟨q',c',g',h5,_,h6,_,h7⟩:=jG hk1 j v hj;have e:=heq g' v q' h7;rw[<-e]at hvg;have:=hφ.dis q q' c c' g h4 h6 hg hvg;subst this;have hjl:j<qs.length:=(E8.1 h5).1;have:=hinj j (qs.length+i) q (by rw[FE hjl];exact h5) (by rw[F1 (by omega)];simpa using h3);omega
  ·intro i j u v g hi hj hg hg';obtain⟨q,c,h3,h4,rfl⟩:=hat i u hi;obtain⟨q',c',h5,h6,rfl⟩:=hat j v hj;have:=hφ.dis q q' c c' g h4 h6 hg hg';subst this;have:=hinj (qs.length+i) (qs.length+j) q (by rw[F1 (by omega)];simpa using h3) (by rw[F1 (by omega)];simpa using h5);omega
 cases x with
 |normal=>exact key hq
 |ret=>exact key hq
 |exit id=>exact hq.elim
 |goto l=>exact hq.elim
 |panic ch=>simp[fine]at hfe
 |outgrown=>simp[fine]at hfe
theorem L2.ofGet {α β:Type}{R:α->β->Prop}: ∀{as:List α} {bs:List β},as.length=bs.length->(∀(i:Nat) a b,as[i]? =some a->bs[i]? =some b->R a b)->L2 R as bs
 | [],[],_,_=> .nil
 |a::as,b::bs,hl,h=> .cons (h 0 a b rfl rfl) (L2.ofGet (by simpa using hl) λi x y h1 h2=>h (i+1) x y (by simpa using h1) (by simpa using h2))
 | [],_::_,hl,_=>by simp at hl
 |_::_,[],hl,_=>by simp at hl
def pt (fr:Bool):List Nat->List Own->List (Nat×Option Own)->List (Nat×Option Own)
 |q::qs,c::cs,ow=>(q,some (c.reg fr))::pt fr qs cs ow
 |_,_,ow=>ow
def pW (fr:Bool):Nat->List Own->List (Nat×Option Own)->List (Nat×Option Own)
 |n,c::cs,ow=>(n,some (c.reg fr))::pW fr (n+1) cs ow
 |_,[],ow=>ow
def oc:Nat->List Nat->List Value->List (Nat×SV)->List (Nat×SV)
 |i,g::gs,u::us,sl=>(g,.eq u i)::oc (i+1) gs us sl
 |_,_,_,sl=>sl
theorem lk_setOw {fr:Bool}{ow:List (Nat×Option Own)}: ∀(qs:List Nat) (cs:List Own) (i:Nat) (c:Own),qs.length=cs.length->(lk (pt fr qs cs ow) i).join=some c->(∃(j:Nat) (c0:Own),qs[j]? =some i/\cs[j]? =some c0/\c=c0.reg fr)∨(i∉qs/\(lk ow i).join=some c)
 | [],[],i,c,_,h=> .inr ⟨by simp,h⟩
 |q::qs,c0::cs,i,c,hl,h=>by
  simp only[pt,ak]at h;by_cases e:q=i
  ·rw[E6 e]at h;exact .inl ⟨0,c0,by simp[e],by simp,(E7 h).symm⟩
  ·rw[E4 e]at h;rcases lk_setOw qs cs i c (by simpa using hl) h with ⟨j,c1,h1,h2,h3⟩|⟨h1,h2⟩;·exact .inl ⟨j+1,c1,by simpa using h1,by simpa using h2,h3⟩
   ·exact .inr ⟨by simp[h1,Ne.symm e],h2⟩
 | [],_::_,_,_,hl,_=>by simp at hl
 |_::_,[],_,_,hl,_=>by simp at hl
theorem lk_newOw {fr:Bool}{ow:List (Nat×Option Own)}: ∀(cs:List Own) (n i:Nat) (c:Own),(lk (pW fr n cs ow) i).join=some c->(∃(j:Nat) (c0:Own),i=n+j/\cs[j]? =some c0/\c=c0.reg fr)∨(¬(n<=i/\i<n+cs.length)/\(lk ow i).join=some c)
 | [],n,i,c,h=> .inr ⟨by simp,h⟩
 |c0::cs,n,i,c,h=>by
  simp only[pW,ak]at h;by_cases e:n=i
  ·rw[E6 e]at h;exact .inl ⟨0,c0,by omega,by simp,(E7 h).symm⟩
  ·rw[E4 e]at h;rcases lk_newOw cs (n+1) i c h with ⟨j,c1,h1,h2,h3⟩|⟨h1,h2⟩;·exact .inl ⟨j+1,c1,by omega,by simpa using h2,h3⟩
   ·exact .inr ⟨by simp only[El];omega,h2⟩
theorem lk_eqsOn {sl:List (Nat×SV)}: ∀(gs:List Nat) (us:List Value) (i s:Nat) (sv:SV),lk (oc i gs us sl) s=some sv->(∃(j:Nat) (u:Value),s∈gs/\us[j]? =some u/\sv= .eq u (i+j))∨lk sl s=some sv
 | [],us,i,s,sv,h=> .inr h
 |g::gs,[],i,s,sv,h=> .inr h
 |g::gs,u::us,i,s,sv,h=>by
  simp only[oc,ak]at h;by_cases e:g=s
  ·rw[E6 e]at h;exact .inl ⟨0,u,by simp[e],by simp,(E7 h).symm⟩
  ·rw[E4 e]at h;rcases lk_eqsOn gs us (i+1) s sv h with ⟨j,v,h1,h2,h3⟩|h1;·exact .inl ⟨j+1,v,.tail _ h1,by simpa using h2,by rw[h3];congr 1;omega⟩
   ·exact .inr h1
def ze (E:EnvF):List Nat->List Value->List Own->List Nat->Prop
 |g::gs,u::us,c::cs,q::qs=>E.slot g=some (.eq u q)/\E.own q=some c/\ze E gs us cs qs
 | [],[],[],[]=>True
 |_,_,_,_=>False
theorem qp {E:EnvF}: ∀{gs:List Nat} {us:List Value} {cs:List Own} {qs:List Nat},ze E gs us cs qs->(us.length=cs.length/\qs.length=cs.length)/\(∀(i:Nat) (q:Nat),qs[i]? =some q->∃u c g,us[i]? =some u/\cs[i]? =some c/\E.own q=some c/\E.slot g=some (.eq u q))
 |g::gs,u::us,c::cs,q::qs,h=>by
  obtain⟨h1,h2,h3⟩:=h;obtain⟨⟨h4,h5⟩,h6⟩:=qp h3;refine⟨⟨by simp[h4],by simp[h5]⟩,λi p hp=> ?_⟩;cases i with
  |zero=>simp at hp;subst hp;exact⟨u,c,g,rfl,rfl,h2,h1⟩
  |succ i=>simp at hp;simpa using h6 i p hp
 | [],[],[],[],_=>⟨⟨rfl,rfl⟩,λi q hq=>by simp at hq⟩
section
variable {K:Ctx}{V:EnvF}{U:Nat->Prop}{φ:Nat->Value}{a:Act}{w:World}
theorem Cl (h:RelW K V U φ a w){qs:List Nat}(hqs: ∀q∈qs,∃c,V.own q=some c){x:Operand}{sv:SV}{p:PV}(hx:V.get x=some sv)(hp:V.pv sv=some p)(hn:(qs.all λq=>nr q (some sv))=true):Rep w (λb=> ∀q∈qs,¬VB (φ q) b) (a.eval x) p:=by
 obtain⟨hr,_⟩:=ah h hx;have hZ: ∀f b,Zf K V φ f b->∀q∈qs,¬VB (φ q) b:=λf b hb q hq=>(by obtain⟨c,hc⟩:=hqs q hq;exact hb.1.2 q c hc);cases sv with
 |val f p'=>simp only[EnvF.pv,E9]at hp;subst hp;exact Rep.mono (λb hb _=>⟨hZ f b hb,rfl⟩) hr
 |fix u p'=>simp only[EnvF.pv,E9]at hp;subst hp;exact Rep.mono (λb hb _=>⟨hZ false b hb,rfl⟩) hr.2
 |nilsl=>simp only[EnvF.pv,E9]at hp;subst hp;simp only[bg,aE]at hr;rw[hr];exact .nilsl
 |ref o=>
  have hne: ∀q∈qs,o≠q:=λq hq=>(by simpa[nr]using EN.1 hn q hq);simp only[EnvF.pv]at hp;split at hp
  ·rename_i e sz fr rows ho;obtain rfl:=E7 hp;simp only[bg,aE]at hr;rw[hr];obtain⟨xs,hown,hl,h1,h2⟩:=h.own o _ ho;have hl':L2 (Rep w (λb=> ∀q∈qs,¬VB (φ q) b)) xs rows.flatten:=Rep.monoL (λb hb _=>⟨hZ fr b hb,rfl⟩) hl;have hlt:=hown.lt;have hcell:=λg hg=>hown.cells (g:=g) hg;rcases hown.2 with ⟨hv,hn⟩|⟨g,cap,cur,hv,_,hg,hnc,hcm,_⟩
   ·rw[hv];have:rows=[]:=EQ hn;subst this;exact .nilsl
   ·have hbl:VB (φ o) g:=(by rw[hv];exact .inl Y);rw[hv]at hcell hlt⊢;refine .sl g 0 cap sz rows xs (λq hq e=> ?_) (hlt g Y).2 h1 h2 (λj v hj=> ?_) hnc hcm hl'
    ·obtain⟨c,hc⟩:=hqs q hq;exact hne q hq (h.dis o q _ c g ho hc hbl e)
    ·have:=hcell g Y j v hj;rw[bE]at this;exact ce hg this
  ·cases hp
 |_=>simp[EnvF.pv]at hp
theorem B6 (h:RelW K V U φ a w){qs:List Nat}(hqs: ∀q∈qs,∃c,V.own q=some c): ∀(xs:List Operand) (ps:List PV),cz V false xs=some ps->(xs.all λy=>qs.all λq=>nr q (V.get y))=true->L2 (Rep w (λb=> ∀q∈qs,¬VB (φ q) b)) (xs.map a.eval) ps
 | [],ps,hp,_=>by simp only[cz,E9]at hp;subst hp;exact .nil
 |x::rest,ps,hp,hn=>by
  simp only[Gn,EL]at hn;simp only[cz]at hp;split at hp
  ·rename_i p l hx hl;obtain rfl:=E7 hp;refine .cons ?_ (B6 h hqs rest l hl hn.2);simp only[qO]at hx;split at hx
   ·rename_i sv hsv;rw[hsv]at hn;exact Cl h hqs hsv hx hn.1
   ·cases hx
  ·cases hp
theorem vt {w:World}{Z:Nat->Prop}{u:Value}{c c':Own}(h:aA w (λ_=>Z) u c)(e:c.reg true=c'.reg true):aA w (λ_=>Z) u c':=by
 have h1:=ip (Zb:=λ_=>Z) (f:=true) h λ_ hb=>hb;rw[e]at h1;have h2:=ip (Zb:=λ_=>Z) (f:=c'.fr) h1 λ_ hb=>hb;cases c'<;>exact h2
end
theorem J.co {K:Ctx}{ops:Array Oper}{o:Oper}{rest:List Oper}{sl:List (Nat×SV)}{ow:List (Nat×Option Own)}{nx:Nat}{R:St->Prop}{d:Nat}{x:Operand}{args:Array Operand}{tys:Array TypeId}{f:FuncId}{al fx:Bool}{first caps ps ps':List PV}{us:List Value}{cs cs2 cs':List Own}{news:List Value->List Own}{res:List Value->List PV}{qs:List Nat}(fr:Bool)(gs hs:List Nat)
  (ho:o.op= .call { callee:= .value x,args:=args,argTypes:=tys }) (hg:wants ops (St.mk sl ow nx).f o=some true) (hd:o.dst=some d) (hlt:K.can d=true) (hx:(St.mk sl ow nx).f.get x=some (.val fx (.fn (.func f) first caps)))
  (hhs:true=true) (hspec:SpecO K.P f al us cs ps' cs' news res) (hq:ze (St.mk sl ow nx).f gs us cs2 qs) (hdup:dup qs=false) (hcs:cs2.map (Own.reg true)=cs.map (Own.reg true)) (hfr:(cs2.all λc=> !fr||c.fr)=true)
  (hps:cz (St.mk sl ow nx).f al args.toList=some ps) (hne:(al||args.toList.all λy=>qs.all λq=>nr q ((St.mk sl ow nx).f.get y))=true) (hpe:first++ps++caps=ps') (hal:(!al|| !fr)=true)
  (k: ∀ns:List Value,ns.length=(news ns).length->J K ops false rest ⟨(d,RV.one fr nx ((res ns).map .val))::oc nx hs ns sl,pW fr nx (news ns) (pt fr qs cs' ow),nx+(news ns).length⟩ R):J K ops false (o::rest) ⟨sl,ow,nx⟩ R:=by
 subst hpe;refine⟨TO.mk λa w Q hr hQ=> ?_⟩;obtain⟨φ,hφ⟩:=hr;unfold wpList;rw[E6 (aH hφ hg)];refine .inl ?_;obtain⟨hrf,_⟩:=ah hφ hx;generalize hvx:a.eval x=vx at hrf;cases hrf with
 |fn _ vs vcs _ _ hf hc=>
 obtain⟨fn,hfn,hbody,hname⟩:=hspec.isFn;have hrun:(execOp a.eval o).run K.P w= .ok (.enter f (vs++args.toList.map a.eval++vcs).toArray) w:=by
  have hb:fn.body.isNone=false:=(by cases hfb:fn.body<;>simp_all);simp only[execOp,ho,resolve,hvx,Deferred.ofValue,EM,Ev,EG,invoke,callFunc,run_program,hfn,hname,hb,FC,if_false];congr 2;apply Array.ext';simp
 unfold Oper.wp;rw[hrun];obtain⟨⟨hl1,hl2⟩,hat⟩:=qp hq;have hcl:cs2.length=cs.length:=(by have:=congrArg List.length hcs;simpa using this);have hval: ∀(i q:Nat) (u:Value),qs[i]? =some q->us[i]? =some u->φ q=u:=by
  intro i q u h1 h2;obtain⟨u',c,g,h3,_,_,h5⟩:=hat i q h1;rw[h2]at h3;cases h3;obtain⟨_,_,e⟩:=hφ.slot g _ h5;exact e
 have hinj:=fW qs hdup;have hownq: ∀q∈qs,∃c,(St.mk sl ow nx).f.own q=some c:=λq hq=>by
  obtain⟨i,hi⟩:=EK hq;obtain⟨_,c,_,_,_,h,_⟩:=hat i q hi;exact⟨c,h⟩
 have hoff: ∀b,(∀q∈qs,¬VB (φ q) b)->Off us b:=by
  intro b hb u hu;obtain⟨i,hi⟩:=EK hu;have hil:i<qs.length:=(by have:=(E8.1 hi).1;omega);rw[<-hval i _ u (E5 hil) hi];exact hb _ (EA hil)
 have hoff2: ∀b,Off us b->∀q∈qs,¬VB (φ q) b:=by
  intro b hb q hqm;obtain⟨i,hi⟩:=EK hqm;obtain⟨u,c,g,h3,_⟩:=hat i q hi;rw[hval i q u hi h3];exact hb u (EC h3)
 have hzoff: ∀f b,Zf K (St.mk sl ow nx).f φ f b->Off us b:=λf b hb=>hoff b λq hqm=>(by obtain⟨c,hc⟩:=hownq q hqm;exact hb.1.2 q c hc);have hown1:L2 (aA w λ_=>Zf K (St.mk sl ow nx).f φ fr) us cs:=by
  have key: ∀(i:Nat) u c,us[i]? =some u->cs[i]? =some c->aA w (λ_=>Zf K (St.mk sl ow nx).f φ fr) u c:=by
   intro i u c h1 h2;have hil:i<qs.length:=(by have:=(E8.1 h1).1;omega);obtain⟨u',c2,g,h3,h4,h5,h6⟩:=hat i _ (E5 hil);rw[h1]at h3;cases h3;have e:=hval i _ u (E5 hil) h1;have ho2:=hφ.own _ _ h5;rw[e]at ho2;have hc2:c2.reg true=c.reg true:=by
    have:=congrArg (λl=>l[i]?) hcs;simpa[h4,h2]using this
   have hfl:(!fr||c2.fr)=true:=EN.1 hfr c2 (EC h4);exact vt (pO ho2 λb hb=>⟨hb.1,λe=>hb.2 (by rw[e]at hfl;simpa using hfl)⟩) hc2
  exact L2.ofGet (by omega) key
 have hap:ib us:=by
  intro i j u v g h1 h2 hg1 hg2;have hil:i<qs.length:=(by have:=(E8.1 h1).1;omega);have hjl:j<qs.length:=(by have:=(E8.1 h2).1;omega);have h3:=E5 hil;have h4:=E5 hjl;obtain⟨_,c,_,_,_,h5,_⟩:=hat i _ h3;obtain⟨_,c',_,_,_,h6,_⟩:=hat j _ h4;have e1:=hval i _ u h3 h1;have e2:=hval j _ v h4 h2;rw[<-e1]at hg1;rw[<-e2]at hg2;have:=hφ.dis _ _ c c' g h5 h6 hg1 hg2;exact hinj i j _ h3 (by rw[this];exact h4)
 have hargs:L2 (Rep w λb=>Off us b/\(al=true->Zf K (St.mk sl ow nx).f φ fr b)) (vs++args.toList.map a.eval++vcs) (first++ps++caps):=by
  have hz0: ∀f b,Zf K (St.mk sl ow nx).f φ f b->Off us b/\(al=true->Zf K (St.mk sl ow nx).f φ fr b):=λf b hb=>⟨hzoff f b hb,λe=>by
   rw[e]at hal;have:fr=false:=(by simpa using hal);subst this;exact⟨hb.1,λe=>by cases e⟩⟩
  refine((Rep.monoL (λb hb _=>⟨hz0 _ b hb,rfl⟩) hf).append ?_).append (Rep.monoL (λb hb _=>⟨hz0 _ b hb,rfl⟩) hc);cases al with
  |true=>
   refine Rep.monoL (λb hb _=>⟨hz0 false b ⟨hb Y,λe=>by cases e⟩,rfl⟩) (jb hφ args.toList ps hps)
  |false=>
   exact Rep.monoL (λb hb _=>⟨⟨hoff b hb,λe=>by cases e⟩,rfl⟩) (B6 hφ hownq args.toList ps hps (by simpa using hne))
 refine(hspec.out w (Zf K (St.mk sl ow nx).f φ fr) _ hown1 hap (λb hb=>hzoff fr b hb) hargs).mono ?_;rintro _ w' ⟨rs,ns,rfl,hos,htape,hout,hsize,hblk,hus,hns,hfresh,hapn,hres⟩;have hnl:=hns.length;have hul:=hus.length;let φ':Nat->Value:=bQ φ nx ns;have hφ': ∀i,i<nx->φ' i=φ i:=λi hi=>(by simp only[φ',bQ];rw[E4 (by omega)]);have hφn: ∀(j:Nat) u,ns[j]? =some u->φ' (nx+j)=u:=by
  intro j u hu;have hj:=(E8.1 hu).1;simp only[φ',bQ];rw[E6 (by omega),E0,FW,hu];rfl
 let E':St:=⟨sl,pW fr nx (news ns) (pt fr qs cs' ow),nx+(news ns).length⟩;have hcl':qs.length=cs'.length:=(by omega);have hcase: ∀i c,E'.f.own i=some c->(∃(j:Nat) (c0:Own),i=nx+j/\(news ns)[j]? =some c0/\c=c0.reg fr)∨(∃(j:Nat) (c0:Own),qs[j]? =some i/\cs'[j]? =some c0/\c=c0.reg fr)∨(i∉qs/\¬(nx<=i/\i<nx+(news ns).length)/\(St.mk sl ow nx).f.own i=some c):=by
  intro i c h;rcases lk_newOw (news ns) nx i c h with h1|⟨h1,h2⟩;·exact .inl h1
  ·rcases lk_setOw qs cs' i c hcl' h2 with h3|⟨h3,h4⟩;·exact .inr (.inl h3)
   ·exact .inr (.inr ⟨h3,h1,h4⟩)
 have hqlt: ∀q∈qs,q<nx:=λq hqm=>(by obtain⟨c,hc⟩:=hownq q hqm;exact hφ.inU q c hc);have hC: ∀i,i∉qs->¬(nx<=i/\i<nx+(news ns).length)->¬(i∈qs∨(nx<=i/\i<nx+(news ns).length)):=λi h1 h2 h3=>h3.elim h1 h2;have hZp: ∀b,(Zf K (St.mk sl ow nx).f φ fr b∨w.heap.size<=b)/\Off (us++ns) b->Zf K E'.f φ' fr b:=by
  rintro b ⟨hb1,hb2⟩;refine⟨⟨?_,λi c hi hv=> ?_⟩,λe=> ?_⟩
  ·rcases hb1 with hb1|hb1;·exact hb1.1.1
   ·exact .inl (Em hφ.kept.size hb1)
  ·rcases hcase i c hi with ⟨j,c0,rfl,h1,_⟩|⟨j,c0,h1,h2,_⟩|⟨h1,h2,h3⟩
   ·have hj:j<ns.length:=(by have:=(E8.1 h1).1;omega);have hu:=E5 hj;rw[hφn j _ hu]at hv;exact hb2 _ (Ey _ (EA hj)) hv
   ·have hj:j<us.length:=(by have:=(E8.1 h1).1;omega);have hu:=E5 hj;rw[hφ' i (hqlt i (EC h1)),hval j i _ h1 hu]at hv;exact hb2 _ (Ex _ (EA hj)) hv
   ·rw[hφ' i (hφ.inU i c h3)]at hv;rcases hb1 with hb1|hb1;·exact hb1.1.2 i c h3 hv
    ·have:=(hφ.own i c h3).lt hv;omega
  ·rcases hb1 with hb1|hb1;·exact hb1.2 e
   ·exact K.hF _ (Em hφ.kept.size hb1)
 have hrel:RelW K E'.f (· <nx+(news ns).length) φ' a w':=by
  refine hφ.step (λb=> ∃q∈qs,VB (φ q) b) (λi=>i∈qs∨(nx<=i/\i<nx+(news ns).length)) Y (λi (hi:i<nx)=>by show i<nx+(news ns).length;omega) (λi hi=>hφ' i hi) hos htape hout hsize ?_ ?_ ?_ ?_ ?_
  ·intro b hb hne;exact hblk b hb (hoff b λq hqm e=>hne ⟨q,hqm,e⟩)
  ·rintro b _ ⟨q,hqm,e⟩;obtain⟨c,hc⟩:=hownq q hqm;exact⟨q,c,hc,e,.inl hqm⟩
  ·intro i c hi hne;rcases hcase i c hi with ⟨j,c0,rfl,h1,_⟩|⟨j,c0,h1,h2,_⟩|⟨h1,h2,h3⟩
   ·have:=(E8.1 h1).1;exact EX (.inr ⟨by omega,by omega⟩) hne
   ·exact EX (.inl (EC h1)) hne
   ·exact h3
  ·intro i c hi hie;rcases hcase i c hi with ⟨j,c0,rfl,h1,rfl⟩|⟨j,c0,h1,h2,rfl⟩|⟨h1,h2,h3⟩
   ·have hj:=(E8.1 h1).1;obtain⟨u,hu,hr⟩:=hns.get h1;rw[hφn j u hu];exact⟨by show nx+j<nx+(news ns).length;omega,ip hr hZp,λg hg=> .inl (hfresh u g (EC hu) hg)⟩
   ·obtain⟨u,hu,hr⟩:=hus.get h2;have hlt2:=hqlt i (EC h1);have e:=hval j i u h1 hu;rw[hφ' i hlt2];refine⟨by show i<nx+(news ns).length;omega,by rw[e];exact ip hr hZp,λg hg=> ?_⟩;obtain⟨c1,hc1⟩:=hownq i (EC h1);exact .inr ⟨i,c1,hc1,hg,.inl (EC h1)⟩
   ·exact EX hie (hC i h1 h2)
  ·intro i i' c c' g hi hi' hie hie' hv hv';have key: ∀i c,E'.f.own i=some c->(i∈qs∨(nx<=i/\i<nx+(news ns).length))->VB (φ' i) g->(i∈qs/\g<w.heap.size/\VB (φ i) g)∨(∃(j:Nat) (u:Value),i=nx+j/\ns[j]? =some u/\VB u g/\w.heap.size<=g):=by
    intro i c hi hie hv;rcases hie with hm|hm
    ·have hlt2:=hqlt i hm;rw[hφ' i hlt2]at hv;obtain⟨c1,hc1⟩:=hownq i hm;exact .inl ⟨hm,(hφ.own i c1 hc1).lt hv,hv⟩
    ·have hj:i-nx<ns.length:=(by omega);have hu:=E5 hj;have e:φ' i=ns[i-nx]:=by
      have:=hφn (i-nx) _ hu;rwa[show nx+(i-nx)=i by omega]at this
     rw[e]at hv;exact .inr ⟨i-nx,_,by omega,hu,hv,hfresh _ g (EA hj) hv⟩
   rcases key i c hi hie hv with ⟨h1,h2,h3⟩|⟨j,u,rfl,hu,hug,hge⟩
   ·rcases key i' c' hi' hie' hv' with ⟨h4,h5,h6⟩|⟨j',u',rfl,hu',hug',hge'⟩
    ·obtain⟨c1,hc1⟩:=hownq i h1;obtain⟨c2,hc2⟩:=hownq i' h4;exact hφ.dis i i' c1 c2 g hc1 hc2 h3 h6
    ·omega
   ·rcases key i' c' hi' hie' hv' with ⟨h4,h5,h6⟩|⟨j',u',rfl,hu',hug',hge'⟩;·omega
    ·rw[hapn j j' u u' g hu hu' hug hug']
 have heach:L2 (RV1 w' (Zf K E'.f φ' fr)) rs ((res ns).map .val):=by
  have h2:=Rep.monoL (w':=w') (λb hb _=>⟨hZp b hb,rfl⟩) hres;clear k hQ hspec;generalize res ns=rl at*;clear hres
  induction h2 with
  |nil=>exact .nil
  |cons h1 _ ih=>exact .cons h1 ih
 have hdst: ∀(v:Value) (sv:SV),bg w' (Zf K E'.f φ') φ' v sv->sv.inU (· <nx+(news ns).length)->∃a2,a2=a.put o.dst v/\Rel K ⟨(d,sv)::oc nx hs ns sl,pW fr nx (news ns) (pt fr qs cs' ow),nx+(news ns).length⟩ a2 w':=by
  intro v sv h1 h2;refine⟨_,rfl,φ',?_⟩;have hput:RelW K (St.mk ((d,sv)::sl) (pW fr nx (news ns) (pt fr qs cs' ow)) (nx+(news ns).length)).f (· <nx+(news ns).length) φ' (a.put o.dst v) w':=by
   rw[hd];exact hrel.put hlt h1 h2 Y slot_put
  have hsz:=hput.sz;refine⟨hput.df,hput.sz,hput.old,hput.kept,hput.own,hput.mine,hput.inU,hput.dis,?_,?_⟩
  ·intro s sv' hs';rcases slot_put s sv' hs' with ⟨rfl,rfl⟩|⟨hne,h3⟩;·exact hput.slot s sv' (by show lk ((s,sv')::sl) s=_;rw[ak,E6 Y])
   ·rcases lk_eqsOn hs ns nx s sv' h3 with ⟨j,u,h4,h5,rfl⟩|h4
    ·refine⟨_,rfl,?_⟩;exact hφn j u h5
    ·exact hput.slot s sv' (by show lk ((d,sv)::sl) s=_;rw[ak,E4 (Ne.symm hne)];exact h4)
  ·intro s sv' hs';rcases slot_put s sv' hs' with ⟨rfl,rfl⟩|⟨hne,h3⟩;·exact h2
   ·rcases lk_eqsOn hs ns nx s sv' h3 with ⟨j,u,h4,h5,rfl⟩|h4
    ·have:=(E8.1 h5).1;show nx+j<nx+(news ns).length;omega
    ·exact hput.sin s sv' (by show lk ((d,sv)::sl) s=_;rw[ak,E4 (Ne.symm hne)];exact h4)
 obtain⟨h1,h2⟩:=dO (U:=(· <nx+(news ns).length)) (Z:=Zf K E'.f φ') (φ:=φ') ((res ns).map .val) rs nx heach (λi v hi=>by rw[f5]at hi;simp at hi) (λi hi=>by rw[f7]at hi;simp at hi);obtain⟨h3,h4⟩:=fg h1 h2;obtain⟨a2,rfl,hr2⟩:=hdst _ _ h3 h4;exact((k ns hnl).out).out _ _ Q hr2 hQ
section
variable {K:Ctx}{sl:List (Nat×SV)}{ow:List (Nat×Option Own)}{nx:Nat}{a:Act}{w:World}
theorem RelW.frz {φ:Nat->Value}(hφ:RelW K (St.mk sl ow nx).f (· <nx) φ a w)(hM: ∀b,¬K.M b){o:Nat}{e:TypeId}{sz:Nat}{fr:Bool}{rows:List (List PV)}(ho:(St.mk sl ow nx).f.own o=some (.sl e sz fr rows)):
  RelW K (St.mk sl ((o,none)::ow) nx).f (· <nx) φ a w/\Rep w (Zf K (St.mk sl ((o,none)::ow) nx).f φ fr) (φ o) (.sl rows):=by
 have hown': ∀q c,(St.mk sl ((o,none)::ow) nx).f.own q=some c->q≠o/\(St.mk sl ow nx).f.own q=some c:=by
  intro q c hq;simp only[St.f,ak]at hq;by_cases e:o=q;·rw[E6 e]at hq;cases hq
  ·rw[E4 e]at hq;exact⟨Ne.symm e,hq⟩
 have hZ: ∀f b,Zf K (St.mk sl ow nx).f φ f b->Zf K (St.mk sl ((o,none)::ow) nx).f φ f b:=
  λf b hb=>⟨⟨hb.1.1,λq c hq=>hb.1.2 q c (hown' q c hq).2⟩,hb.2⟩
 refine⟨⟨hφ.df,hφ.sz,hφ.old,hφ.kept,?_,?_,?_,?_,?_,?_⟩,?_⟩
 ·intro q c hq;exact(hφ.own q c (hown' q c hq).2).mono (λ_ _=>rfl) λf b hb _=>⟨hZ f b hb,rfl⟩
 ·intro q c g hq;exact hφ.mine q c g (hown' q c hq).2
 ·intro q c hq;exact hφ.inU q c (hown' q c hq).2
 ·intro q q' c c' g hq hq';exact hφ.dis q q' c c' g (hown' q c hq).2 (hown' q' c' hq').2
 ·intro t sv h;obtain⟨v,hv,hr⟩:=hφ.slot t sv h;exact⟨v,hv,hr.mono (hφ.sin t sv h) (λf b hb _=>⟨hZ f b hb,rfl⟩) (λ_ _=>rfl)⟩
 ·exact hφ.sin
 ·obtain⟨xs,hwn,hl,h1,h2⟩:=hφ.own o _ ho;have hl':L2 (Rep w (Zf K (St.mk sl ((o,none)::ow) nx).f φ fr)) xs rows.flatten:=Rep.monoL (λb hb _=>⟨hZ fr b hb,rfl⟩) hl;have hcell:=λg hg=>hwn.cells (g:=g) hg;have hlt:=hwn.lt;rcases hwn.2 with ⟨hv0,hn⟩|⟨g,cap,cur,hv0,_,hgc,hnc,hcm,_⟩
  ·rw[hv0];have:rows=[]:=EQ hn;subst this;exact .nilsl
  ·have hm:=hφ.mine o _ g ho (by rw[hv0];exact .inl Y);have hge:K.w0.heap.size<=g:=hm.resolve_right (hM g);rw[hv0]at hcell hlt⊢;refine .sl g 0 cap sz rows xs ⟨⟨.inl hge,λq c hq hvq=> ?_⟩,λ_=>K.hF _ hge⟩ (hlt g Y).2 h1 h2 (λj v hj=> ?_) hnc hcm hl'
   ·obtain⟨hne,hq'⟩:=hown' q c hq;exact hne (hφ.dis q o c _ g hq' ho hvq (by rw[hv0];exact .inl Y))
   ·have:=hcell g Y j v hj;rw[bE]at this;exact ce hgc this
theorem RelW.reown {φ:Nat->Value}(hφ:RelW K (St.mk sl ow nx).f (· <nx) φ a w){o:Nat}{c c2:Own}(ho:(St.mk sl ow nx).f.own o=some c)(h2:aA w (Zf K (St.mk sl ow nx).f φ) (φ o) c2):RelW K (St.mk sl ((o,some c2)::ow) nx).f (· <nx) φ a w:=by
 have hown': ∀q c',(St.mk sl ((o,some c2)::ow) nx).f.own q=some c'->(q=o/\c'=c2)∨(St.mk sl ow nx).f.own q=some c':=by
  intro q c' hq;simp only[St.f,ak]at hq;by_cases e:o=q;·rw[E6 e]at hq;exact .inl ⟨e.symm,(E7 hq).symm⟩
  ·rw[E4 e]at hq;exact .inr hq
 have hex: ∀q c',(St.mk sl ((o,some c2)::ow) nx).f.own q=some c'->∃c1,(St.mk sl ow nx).f.own q=some c1:=by
  intro q c' hq;rcases hown' q c' hq with ⟨rfl,_⟩|h;·exact⟨c,ho⟩
  ·exact⟨c',h⟩
 have hZ: ∀f b,Zf K (St.mk sl ow nx).f φ f b->Zf K (St.mk sl ((o,some c2)::ow) nx).f φ f b:=
  λf b hb=>⟨⟨hb.1.1,λq c hq=>by obtain⟨c1,h⟩:=hex q c hq;exact hb.1.2 q c1 h⟩,hb.2⟩
 refine⟨hφ.df,hφ.sz,hφ.old,hφ.kept,?_,?_,?_,?_,?_,hφ.sin⟩
 ·intro q c' hq;rcases hown' q c' hq with ⟨rfl,rfl⟩|h;·exact h2.mono (λ_ _=>rfl) λf b hb _=>⟨hZ f b hb,rfl⟩
  ·exact(hφ.own q c' h).mono (λ_ _=>rfl) λf b hb _=>⟨hZ f b hb,rfl⟩
 ·intro q c' g hq;obtain⟨c1,h⟩:=hex q c' hq;exact hφ.mine q c1 g h
 ·intro q c' hq;obtain⟨c1,h⟩:=hex q c' hq;exact hφ.inU q c1 h
 ·intro q q' c' c'' g hq hq';obtain⟨c1,h⟩:=hex q c' hq;obtain⟨c1',h'⟩:=hex q' c'' hq';exact hφ.dis q q' c1 c1' g h h'
 ·intro t sv h;obtain⟨v,hv,hr⟩:=hφ.slot t sv h;exact⟨v,hv,hr.mono (hφ.sin t sv h) (λf b hb _=>⟨hZ f b hb,rfl⟩) (λ_ _=>rfl)⟩
end
theorem cX {w:World}{Z:Nat->Prop}{v:Value}{k:IntKind}{n:Int}(h:Rep w Z v (.int k n)):v= .int k n:=by cases h;rfl
theorem L2.rep {α β:Type}{R:α->β->Prop}{x:α}{y:β}(h:R x y): ∀n:Nat,L2 R (List.replicate n x) (List.replicate n y)
 |0=> .nil
 |n+1=> .cons h (L2.rep h n)
theorem J.ms {K:Ctx}{ops:Array Oper}{dr:Bool}{o:Oper}{rest:List Oper}{sl:List (Nat×SV)}{ow:List (Nat×Option Own)}{nx:Nat}{R:St->Prop}{d:Nat}{t e:TypeId}{x y:Operand}{fl fc:Bool}{kl kc:IntKind}{N1 N2:Int}{inf:TypeInfo}{z:Value}{B:Nat}(r:PV)(n:Nat)
  (ho:o.op= .makeSlice t x y) (hg:wants ops (St.mk sl ow nx).f o=some true) (hd:o.dst=some d) (hlt:K.can d=true) (hx:(St.mk sl ow nx).f.get x=some (.val fl (.int kl N1))) (hy:(St.mk sl ow nx).f.get y=some (.val fc (.int kc N2)))
  (hu:K.P.underlying t=some (.slice e)) (hi:K.P.info? e=some inf) (hz:inf.zero=some z) (hs:inf.size=1) (hz1:z.cells= #[z]) (hB:inf.bytes=B) (hb1:Nat.ble 1 B=true) (h1:r.one=true) (hN:N1=(n:Nat)) (hN2:N2=(n:Nat)) (hr: ∀w Z,Rep w Z z r) (hby:n*B<=140737488355328)
  (k:J K ops dr rest ⟨(d,.ref nx)::sl,(nx,some (.sl e 1 true (List.replicate n [r])))::ow,nx+1⟩ R):J K ops dr (o::rest) ⟨sl,ow,nx⟩ R:=by
 have hb1:=F3 hb1;have hnn:n*1<=n*B:=HL _ hb1;refine .does hg hd hlt (.genO (xs:=[x,y]) (l:=[.int kl N1,.int kc N2]) ?_ ?_ ?_) k
 ·intro v hv;rw[ho];simpa[Op.operands]using hv
 ·simp only[dB,hx,hy,SV.ff]
 ·intro a w hl;obtain⟨v1,v2,e1,h2,h3⟩: ∃v1 v2,[x,y].map a.eval=[v1,v2]/\v1= .int kl N1/\v2= .int kc N2:=by
   cases hl with
   |cons h1 h2=>cases h2 with
    |cons h2 _=>exact⟨_,_,rfl,cX h1,cX h2⟩
  simp only[Ek,Gx,List.cons.injEq,and_true]at e1;obtain⟨e1,e2⟩:=e1;have hrun:=run_make_row (P:=K.P) t e inf z hu hi hz hs hz1 kl kc n (by rw[hB,Nat.mul_comm];omega) (by omega) w;refine⟨.slice (some ⟨w.heap.size,0,none⟩) n n,w.alloc (.cells (madeCells #[z] n) e),?_,cT w _,λZ=> ?_,λg hg=>by simp[VB,aC]at hg;omega⟩
  ·simp only[execOp,ho,EM,e1,e2,h2,h3,hN,hN2,hrun,EG];rfl
  ·have hcl:(madeCells #[z] n).toList=List.replicate n z:=by
    apply GT (by simp[size_madeCells]);intro i h3 h4;simp[madeCells,Nat.mod_one]
   refine⟨List.replicate n z,⟨by simp,.inr ⟨w.heap.size,n,madeCells #[z] n,by simp,Er _,heap_alloc_new w _,by simp,?_,by simp[size_madeCells],?_⟩⟩,?_,?_,?_⟩
   ·have:maxLen=2 ^ 63-1:=rfl;omega
   ·simp[hcl]
   ·have e: ∀n:Nat,(List.replicate n [r]).flatten=List.replicate n r:=by
     intro n
     induction n with
     |zero=>rfl
     |succ n ih=>rw[List.replicate_succ,FM,ih];rfl
    rw[e];exact L2.rep (hr _ _) n
   ·intro q hq;rw[G0 hq];rfl
   ·intro q hq p hp;rw[G0 hq,EI]at hp;rw[hp];exact h1
section
variable {K:Ctx}{sl:List (Nat×SV)}{ow:List (Nat×Option Own)}{nx:Nat}{a:Act}{w:World}
theorem qy {l:List (Value×List (List PV))}{g:Nat}:VB (.tuple (l.map (·.1)).toArray) g↔∃p∈l,aC p.1=some g:=by
 constructor
 ·rintro(h|⟨vs,hv,u,hu,h⟩);·simp[aC]at h
  ·have hv:l.map (·.1)=vs:=congrArg Array.toList (Value.tuple.inj hv);subst hv;obtain⟨p,hp,rfl⟩:=EH.1 hu;exact⟨p,hp,h⟩
 ·rintro⟨p,hp,h⟩;exact .inr ⟨_,rfl,p.1,EH.2 ⟨p,hp,rfl⟩,h⟩
theorem dR.vb {w:World}{Z:Nat->Prop}{v:Value}{e:TypeId}{sz:Nat}{rows:List (List PV)}(h:dR w Z v e sz rows){g:Nat}:VB v g↔aC v=some g:=by
 obtain⟨xs,ho,_⟩:=h;exact sU ho
theorem dR.nil (w:World)(Z:Nat->Prop)(e:TypeId)(sz:Nat):dR w Z (.slice none 0 0) e sz []:=⟨[],⟨by simp,.inl ⟨rfl,rfl⟩⟩,.nil,by simp,by simp⟩
theorem Rel.fam0 (n:Nat)(e:TypeId)(sz:Nat)(h:Rel K ⟨sl,ow,nx⟩ a w):Rel K ⟨sl,(nx,some (.fam e sz true (List.replicate n (.slice none 0 0,[]))))::ow,nx+1⟩ a w:=by
 obtain⟨φ,hφ⟩:=h;have hvb: ∀g,¬VB (.tuple (((List.replicate n ((.slice none 0 0:Value),([]:List (List PV)))).map (·.1))).toArray) g:=by
  intro g hg;obtain⟨p,hp,h⟩:=qy.1 hg;rw[G0 hp]at h;simp[aC]at h
 have hown: ∀q c,(St.mk sl ((nx,some (.fam e sz true (List.replicate n (.slice none 0 0,[]))))::ow) (nx+1)).f.own q=some c->(q=nx/\c= .fam e sz true (List.replicate n (.slice none 0 0,[])))∨(q≠nx/\(St.mk sl ow nx).f.own q=some c):=by
  intro q c hq;simp only[St.f,ak]at hq;by_cases e1:nx=q;·rw[E6 e1]at hq;exact .inl ⟨e1.symm,(E7 hq).symm⟩
  ·rw[E4 e1]at hq;exact .inr ⟨Ne.symm e1,hq⟩
 refine⟨λo=>if o=nx then .tuple ((List.replicate n ((.slice none 0 0:Value),([]:List (List PV)))).map (·.1)).toArray else φ o,hφ.step (λ_=>False) (λo=>o=nx) Y (λo ho=>H4 ho) (λo ho=>E4 (Hr ho)) Y Y Y (EO _) (λ_ _ _=>rfl) (λ_ _ hd=>hd.elim) ?_ ?_ ?_⟩
 ·intro o c ho hne;rcases hown o c ho with ⟨rfl,_⟩|⟨_,h⟩;·exact EX Y hne
  ·exact h
 ·rintro o c ho rfl;rcases hown _ c ho with ⟨_,rfl⟩|⟨h,_⟩
  ·refine⟨Fd _,⟨by simp,λp hp=> ?_,λi j p q g hi hj hg hg'=> ?_⟩,λg hg=> ?_⟩;·rw[G0 hp];exact dR.nil _ _ _ _
   ·rw[G0 (EC hi)]at hg;simp[aC]at hg
   ·rw[E6 Y]at hg;exact EX hg (hvb g)
  ·exact EX Y h
 ·rintro o o' c c' g ho ho' rfl rfl _ _;rfl
theorem Rel.nameO (g:Nat){o:Nat}{c:Own}(hg:true=true)(ho:(St.mk sl ow nx).f.own o=some c)(h:Rel K ⟨sl,ow,nx⟩ a w): ∃u,Rel K ⟨(g,.eq u o)::sl,ow,nx⟩ a w:=by
 obtain⟨φ,hφ⟩:=h;obtain⟨v,hv⟩:=e6 hφ hg;exact⟨φ o,φ,hφ.reslot (s:=g) (sv:= .eq (φ o) o) hv Y (hφ.inU o c ho) Y slot_put⟩
theorem Rel.split (g k:Nat){q:Nat}{e:TypeId}{sz:Nat}{fr:Bool}{l:List (Value×List (List PV))}{u:Value}{rows:List (List PV)}(hg:true=true)(ho:(St.mk sl ow nx).f.own q=some (.fam e sz fr l))(hk:l[k]? =some (u,rows))(h:Rel K ⟨sl,ow,nx⟩ a w):
  Rel K ⟨(g,.eq u nx)::sl,(nx+1,some (.fam e sz fr (l.set k (.slice none 0 0,[]))))::(nx,some (.sl e sz fr rows))::(q,none)::ow,nx+2⟩ a w:=by
 obtain⟨φ,hφ⟩:=h;obtain⟨hv,hl,hdis⟩:=hφ.own q _ ho;have hqn:q<nx:=hφ.inU q _ ho;have hmem:=EC hk;have hvbq: ∀x,VB (φ q) x↔∃p∈l,aC p.1=some x:=λx=>(by rw[hv];exact qy);have hset: ∀p,p∈l.set k ((.slice none 0 0:Value),([]:List (List PV)))->p=(.slice none 0 0,[])∨∃i,i≠k/\l[i]? =some p:=by
  intro p hp;obtain⟨i,hi⟩:=EK hp;rw[FP]at hi;by_cases e1:k=i
  ·rw[E6 e1]at hi;split at hi;·exact .inl (E7 hi).symm
   ·cases hi
  ·rw[E4 e1]at hi;exact .inr ⟨i,Ne.symm e1,hi⟩
 have hvb1: ∀x,VB (.tuple ((l.set k ((.slice none 0 0:Value),([]:List (List PV)))).map (·.1)).toArray) x->∃i p,i≠k/\l[i]? =some p/\aC p.1=some x:=by
  intro x hx;obtain⟨p,hp,h⟩:=qy.1 hx;rcases hset p hp with rfl|⟨i,hne,hi⟩;·simp[aC]at h
  ·exact⟨i,p,hne,hi,h⟩
 obtain⟨ψ,hψ⟩: ∃ψ:Nat->Value,ψ=λo=>if o=nx then u else if o=nx+1 then .tuple ((l.set k ((.slice none 0 0:Value),([]:List (List PV)))).map (·.1)).toArray else φ o:=⟨_,rfl⟩
 have ψ0:ψ nx=u:=(by rw[hψ];simp);have ψ1:ψ (nx+1)= .tuple ((l.set k ((.slice none 0 0:Value),([]:List (List PV)))).map (·.1)).toArray:=(by rw[hψ];simp);have ψo: ∀o,o<nx->ψ o=φ o:=λo ho=>(by rw[hψ];simp only[];rw[E4 (by omega),E4 (by omega)]);have hown: ∀i c,(St.mk sl ((nx+1,some (.fam e sz fr (l.set k (.slice none 0 0,[]))))::(nx,some (.sl e sz fr rows))::(q,none)::ow) (nx+2)).f.own i=some c->
   (i=nx+1/\c= .fam e sz fr (l.set k (.slice none 0 0,[])))∨(i=nx/\c= .sl e sz fr rows)∨(i≠q/\i≠nx/\i≠nx+1/\(St.mk sl ow nx).f.own i=some c):=by
  intro i c hi;simp only[St.f,ak]at hi;by_cases e1:nx+1=i;·rw[E6 e1]at hi;exact .inl ⟨e1.symm,(E7 hi).symm⟩
  ·rw[E4 e1]at hi;by_cases e2:nx=i;·rw[E6 e2]at hi;exact .inr (.inl ⟨e2.symm,(E7 hi).symm⟩)
   ·rw[E4 e2]at hi;by_cases e3:q=i;·rw[E6 e3]at hi;cases hi
    ·rw[E4 e3]at hi;exact .inr (.inr ⟨Ne.symm e3,Ne.symm e2,Ne.symm e1,hi⟩)
 have hZ: ∀f b,Zf K (St.mk sl ow nx).f φ f b->Zf K (St.mk sl ((nx+1,some (.fam e sz fr (l.set k (.slice none 0 0,[]))))::(nx,some (.sl e sz fr rows))::(q,none)::ow) (nx+2)).f ψ f b:=by
  refine λf b hb=>⟨⟨hb.1.1,λi c hi hvb=> ?_⟩,hb.2⟩;rcases hown i c hi with ⟨rfl,_⟩|⟨rfl,_⟩|⟨_,h1,h2,h3⟩
  ·rw[ψ1]at hvb;obtain⟨i,p,_,hi,hp⟩:=hvb1 b hvb;exact hb.1.2 q _ ho ((hvbq b).2 ⟨p,EC hi,hp⟩)
  ·rw[ψ0]at hvb;exact hb.1.2 q _ ho ((hvbq b).2 ⟨_,hmem,(hl _ hmem).vb.1 hvb⟩)
  ·rw[ψo i (hφ.inU i c h3)]at hvb;exact hb.1.2 i c h3 hvb
 have hstep:RelW K (St.mk sl ((nx+1,some (.fam e sz fr (l.set k (.slice none 0 0,[]))))::(nx,some (.sl e sz fr rows))::(q,none)::ow) (nx+2)).f (· <nx+2) ψ a w:=by
  refine hφ.step (λ_=>False) (λo=>o=nx∨o=nx+1∨o=q) Y (λo ho=>H4 (H4 ho)) (λo ho=>ψo o ho) Y Y Y (EO _) (λ_ _ _=>rfl) (λ_ _ hd=>hd.elim) ?_ ?_ ?_
  ·intro i c hi hn;rcases hown i c hi with ⟨rfl,_⟩|⟨rfl,_⟩|⟨_,_,_,h⟩;·exact EX (.inr (.inl Y)) hn
   ·exact EX (.inl Y) hn
   ·exact h
  ·intro i c hi hc;rcases hown i c hi with ⟨rfl,rfl⟩|⟨rfl,rfl⟩|⟨h1,h2,h3,_⟩
   ·refine⟨Fd _,⟨ψ1,λp hp=> ?_,λi j p p' x hi hj hx hx'=> ?_⟩,λx hx=> ?_⟩
    ·rcases hset p hp with rfl|⟨i,_,hi⟩;·exact dR.nil _ _ _ _
     ·exact(hl p (EC hi)).mono (λ_ _=>rfl) λb hb _=>⟨hZ _ b hb,rfl⟩
    ·have get: ∀(i:Nat) (p:Value×List (List PV)),(l.set k ((.slice none 0 0:Value),([]:List (List PV))))[i]? =some p->aC p.1=some x->l[i]? =some p:=by
      intro i p hi hx;rw[FP]at hi;by_cases e1:k=i
      ·rw[E6 e1]at hi;split at hi;·rw[<-E7 hi]at hx;simp[aC]at hx
       ·cases hi
      ·rwa[E4 e1]at hi
     exact hdis i j p p' x (get i p hi hx) (get j p' hj hx') hx hx'
    ·rw[ψ1]at hx;obtain⟨i,p,_,hi,hp⟩:=hvb1 x hx;exact .inr ⟨q,_,ho,(hvbq x).2 ⟨p,EC hi,hp⟩,.inr (.inr Y)⟩
   ·refine⟨by show _<_;omega,?_,λx hx=> ?_⟩
    ·rw[ψ0];exact(hl _ hmem).mono (λ_ _=>rfl) λb hb _=>⟨hZ _ b hb,rfl⟩
    ·rw[ψ0]at hx;exact .inr ⟨q,_,ho,(hvbq x).2 ⟨_,hmem,(hl _ hmem).vb.1 hx⟩,.inr (.inr Y)⟩
   ·rcases hc with h|h|h;·exact EX h h2
    ·exact EX h h3
    ·exact EX h h1
  ·intro i j c c' x hi hj hci hcj hx hx';have hcross:VB (ψ nx) x->VB (ψ (nx+1)) x->False:=by
    intro h1 h2;rw[ψ0]at h1;rw[ψ1]at h2;obtain⟨i,p,hne,hi,hp⟩:=hvb1 x h2;exact hne (hdis i k p _ x hi hk hp ((hl _ hmem).vb.1 h1))
   rcases hown i c hi with ⟨rfl,_⟩|⟨rfl,_⟩|⟨h1,h2,h3,_⟩
   ·rcases hown j c' hj with ⟨rfl,_⟩|⟨rfl,_⟩|⟨h1,h2,h3,_⟩;·rfl
    ·exact(hcross hx' hx).elim
    ·rcases hcj with h|h|h;·exact EX h h2
     ·exact EX h h3
     ·exact EX h h1
   ·rcases hown j c' hj with ⟨rfl,_⟩|⟨rfl,_⟩|⟨h1,h2,h3,_⟩;·exact(hcross hx hx').elim
    ·rfl
    ·rcases hcj with h|h|h;·exact EX h h2
     ·exact EX h h3
     ·exact EX h h1
   ·rcases hci with h|h|h;·exact EX h h2
    ·exact EX h h3
    ·exact EX h h1
 obtain⟨v,hv2⟩:=e6 hφ hg;refine⟨ψ,hstep.reslot (s:=g) (sv:= .eq u nx) hv2 ψ0 (by show nx<nx+2;omega) Y slot_put⟩
theorem Rel.join (k:Nat){g q n:Nat}{e:TypeId}{sz:Nat}{fr:Bool}{l:List (Value×List (List PV))}{u:Value}{rows:List (List PV)}(ho:(St.mk sl ow nx).f.own q=some (.fam e sz fr l))(hn:(St.mk sl ow nx).f.own n=some (.sl e sz fr rows))(hg:lk sl g=some (.eq u n))(hqn:Nat.beq q n=false)(h:Rel K ⟨sl,ow,nx⟩ a w):
  Rel K ⟨sl,(nx,some (.fam e sz fr (l.set k (u,rows))))::(q,none)::(n,none)::ow,nx+1⟩ a w:=by
 obtain⟨φ,hφ⟩:=h;obtain⟨hv,hl,hdis⟩:=hφ.own q _ ho;have hqn':q≠n:=λe=>(by subst e;simp at hqn);have hqx:q<nx:=hφ.inU q _ ho;have hnx:n<nx:=hφ.inU n _ hn;obtain⟨_,_,hu⟩:=hφ.slot g _ hg;have hu:φ n=u:=hu;have hsl:dR w (Zf K (St.mk sl ow nx).f φ fr) u e sz rows:=(by have:=hφ.own n _ hn;rwa[hu]at this);have hvbq: ∀x,VB (φ q) x↔∃p∈l,aC p.1=some x:=λx=>(by rw[hv];exact qy);have hget: ∀i p,(l.set k (u,rows))[i]? =some p->(i=k/\p=(u,rows))∨(i≠k/\l[i]? =some p):=by
  intro i p hi;rw[FP]at hi;by_cases e1:k=i
  ·rw[E6 e1]at hi;split at hi;·exact .inl ⟨e1.symm,(E7 hi).symm⟩
   ·cases hi
  ·rw[E4 e1]at hi;exact .inr ⟨Ne.symm e1,hi⟩
 have hvb1: ∀x,VB (.tuple ((l.set k (u,rows)).map (·.1)).toArray) x->VB (φ n) x∨VB (φ q) x:=by
  intro x hx;obtain⟨p,hp,h⟩:=qy.1 hx;obtain⟨i,hi⟩:=EK hp;rcases hget i p hi with ⟨_,rfl⟩|⟨_,hi⟩;·rw[hu];exact .inl (.inl h)
  ·exact .inr ((hvbq x).2 ⟨p,EC hi,h⟩)
 obtain⟨ψ,hψ⟩: ∃ψ:Nat->Value,ψ=λo=>if o=nx then .tuple ((l.set k (u,rows)).map (·.1)).toArray else φ o:=⟨_,rfl⟩
 have ψ1:ψ nx= .tuple ((l.set k (u,rows)).map (·.1)).toArray:=(by rw[hψ];simp);have ψo: ∀o,o<nx->ψ o=φ o:=λo ho=>(by rw[hψ];simp only[];rw[E4 (by omega)]);have hown: ∀i c,(St.mk sl ((nx,some (.fam e sz fr (l.set k (u,rows))))::(q,none)::(n,none)::ow) (nx+1)).f.own i=some c->
   (i=nx/\c= .fam e sz fr (l.set k (u,rows)))∨(i≠q/\i≠n/\i≠nx/\(St.mk sl ow nx).f.own i=some c):=by
  intro i c hi;simp only[St.f,ak]at hi;by_cases e1:nx=i;·rw[E6 e1]at hi;exact .inl ⟨e1.symm,(E7 hi).symm⟩
  ·rw[E4 e1]at hi;by_cases e2:q=i;·rw[E6 e2]at hi;cases hi
   ·rw[E4 e2]at hi;by_cases e3:n=i;·rw[E6 e3]at hi;cases hi
    ·rw[E4 e3]at hi;exact .inr ⟨Ne.symm e2,Ne.symm e3,Ne.symm e1,hi⟩
 have hZ: ∀f b,Zf K (St.mk sl ow nx).f φ f b->Zf K (St.mk sl ((nx,some (.fam e sz fr (l.set k (u,rows))))::(q,none)::(n,none)::ow) (nx+1)).f ψ f b:=by
  refine λf b hb=>⟨⟨hb.1.1,λi c hi hvb=> ?_⟩,hb.2⟩;rcases hown i c hi with ⟨rfl,_⟩|⟨_,_,h1,h3⟩
  ·rw[ψ1]at hvb;rcases hvb1 b hvb with h|h;·exact hb.1.2 n _ hn h
   ·exact hb.1.2 q _ ho h
  ·rw[ψo i (hφ.inU i c h3)]at hvb;exact hb.1.2 i c h3 hvb
 refine⟨ψ,hφ.step (λ_=>False) (λo=>o=nx∨o=n∨o=q) Y (λo ho=>H4 ho) (λo ho=>ψo o ho) Y Y Y (EO _) (λ_ _ _=>rfl) (λ_ _ hd=>hd.elim) ?_ ?_ ?_⟩
 ·intro i c hi hn;rcases hown i c hi with ⟨rfl,_⟩|⟨_,_,_,h⟩;·exact EX (.inl Y) hn
  ·exact h
 ·intro i c hi hc;rcases hown i c hi with ⟨rfl,rfl⟩|⟨h1,h2,h3,_⟩
  ·refine⟨Fd _,⟨ψ1,λp hp=> ?_,λi j p p' x hi hj hx hx'=> ?_⟩,λx hx=> ?_⟩
   ·obtain⟨i,hi⟩:=EK hp;rcases hget i p hi with ⟨_,rfl⟩|⟨_,hi⟩;·exact hsl.mono (λ_ _=>rfl) λb hb _=>⟨hZ _ b hb,rfl⟩
    ·exact(hl p (EC hi)).mono (λ_ _=>rfl) λb hb _=>⟨hZ _ b hb,rfl⟩
   ·have cross: ∀(i:Nat) (p:Value×List (List PV)),l[i]? =some p->aC p.1=some x->aC u=some x->False:=by
     intro i p hi hp hux;exact hqn' (hφ.dis q n _ _ x ho hn ((hvbq x).2 ⟨p,EC hi,hp⟩) (by rw[hu];exact .inl hux))
    rcases hget i p hi with ⟨e1,rfl⟩|⟨_,hi⟩<;>rcases hget j p' hj with ⟨e2,rfl⟩|⟨_,hj⟩;·rw[e1,e2]
    ·exact(cross j p' hj hx' hx).elim
    ·exact(cross i p hi hx hx').elim
    ·exact hdis i j p p' x hi hj hx hx'
   ·rw[ψ1]at hx;rcases hvb1 x hx with h|h;·exact .inr ⟨n,_,hn,h,.inr (.inl Y)⟩
    ·exact .inr ⟨q,_,ho,h,.inr (.inr Y)⟩
  ·rcases hc with h|h|h;·exact EX h h3
   ·exact EX h h2
   ·exact EX h h1
 ·intro i j c c' x hi hj hci hcj hx hx';have one: ∀i c,(St.mk sl ((nx,some (.fam e sz fr (l.set k (u,rows))))::(q,none)::(n,none)::ow) (nx+1)).f.own i=some c->(i=nx∨i=n∨i=q)->i=nx:=by
   intro i c hi hc;rcases hown i c hi with ⟨h,_⟩|⟨h1,h2,_,_⟩;·exact h
   ·rcases hc with h|h|h;·exact h
    ·exact EX h h2
    ·exact EX h h1
  rw[one i c hi hci,one j c' hj hcj]
theorem n8 {α β:Type}(f:α->β)(l:List α):(l.map λp=>[f p]).flatten=l.map f:=by
 induction l with
 |nil=>rfl
 |cons p l ih=>rw[Ek,FM,ih];rfl
theorem Rel.meltF {qc q:Nat}{t e:TypeId}{sz:Nat}{frc fr:Bool}{l:List (Value×List (List PV))}(hM: ∀b,¬K.M b)(hc:(St.mk sl ow nx).f.own qc=some (.sl t 1 frc (l.map λp=>[.raw p.1])))(ho:(St.mk sl ow nx).f.own q=some (.fam e sz fr l))(hne:Nat.beq q qc=false)(h:Rel K ⟨sl,ow,nx⟩ a w):
  Rel K ⟨sl,(qc,some (.sl t 1 (frc&&fr) (l.map λp=>[.sl p.2])))::(q,none)::ow,nx⟩ a w:=by
 obtain⟨φ,hφ⟩:=h;have hne':q≠qc:=λe=>(by subst e;simp at hne);obtain⟨hv,hl,hdis⟩:=hφ.own q _ ho;have hown': ∀i c,(St.mk sl ((q,none)::ow) nx).f.own i=some c->i≠q/\(St.mk sl ow nx).f.own i=some c:=by
  intro i c hq;simp only[St.f,ak]at hq;by_cases e:q=i;·rw[E6 e]at hq;cases hq
  ·rw[E4 e]at hq;exact⟨Ne.symm e,hq⟩
 have hZ: ∀f b,Zf K (St.mk sl ow nx).f φ f b->Zf K (St.mk sl ((q,none)::ow) nx).f φ f b:=
  λf b hb=>⟨⟨hb.1.1,λi c hq=>hb.1.2 i c (hown' i c hq).2⟩,hb.2⟩
 have h1:RelW K (St.mk sl ((q,none)::ow) nx).f (· <nx) φ a w:=by
  refine⟨hφ.df,hφ.sz,hφ.old,hφ.kept,?_,?_,?_,?_,?_,hφ.sin⟩
  ·intro i c hq;exact(hφ.own i c (hown' i c hq).2).mono (λ_ _=>rfl) λf b hb _=>⟨hZ f b hb,rfl⟩
  ·intro i c g hq;exact hφ.mine i c g (hown' i c hq).2
  ·intro i c hq;exact hφ.inU i c (hown' i c hq).2
  ·intro i i' c c' g hq hq';exact hφ.dis i i' c c' g (hown' i c hq).2 (hown' i' c' hq').2
  ·intro t sv h;obtain⟨v,hv,hr⟩:=hφ.slot t sv h;exact⟨v,hv,hr.mono (hφ.sin t sv h) (λf b hb _=>⟨hZ f b hb,rfl⟩) (λ_ _=>rfl)⟩
 have hfz: ∀p∈l,Rep w (Zf K (St.mk sl ((q,none)::ow) nx).f φ fr) p.1 (.sl p.2):=by
  intro p hp;obtain⟨xs,hwn,hxl,h2,h3⟩:=hl p hp;have hl':L2 (Rep w (Zf K (St.mk sl ((q,none)::ow) nx).f φ fr)) xs p.2.flatten:=Rep.monoL (λb hb _=>⟨hZ fr b hb,rfl⟩) hxl;have hcell:=λg hg=>hwn.cells (g:=g) hg;have hlt:=hwn.lt;obtain⟨v,rows⟩:=p;rcases hwn.2 with ⟨hv0,hn⟩|⟨g,cap,cur,hv0,_,hgc,hnc,hcm,_⟩
  ·simp only at hv0 hn;rw[hv0];have:rows=[]:=EQ hn;subst this;exact .nilsl
  ·simp only at hv0 hcell hlt hl' h2 h3 hgc hnc hcm⊢;have hvbp:VB (φ q) g:=(by rw[hv];exact qy.2 ⟨_,hp,by simp only[hv0];rfl⟩);have hm:=hφ.mine q _ g ho hvbp;have hge:K.w0.heap.size<=g:=hm.resolve_right (hM g);rw[hv0]at hcell hlt⊢;refine .sl g 0 cap sz rows xs ⟨⟨.inl hge,λi c hq hvq=> ?_⟩,λ_=>K.hF _ hge⟩ (hlt g Y).2 h2 h3 (λj v hj=> ?_) hnc hcm hl'
   ·obtain⟨hne,hq'⟩:=hown' i c hq;exact hne (hφ.dis i q c _ g hq' ho hvq hvbp)
   ·have:=hcell g Y j v hj;rw[bE]at this;exact ce hgc this
 have hc':(St.mk sl ((q,none)::ow) nx).f.own qc=some (.sl t 1 frc (l.map λp=>[.raw p.1])):=by
  simp only[St.f,ak];rw[E4 hne'];exact hc
 refine⟨φ,h1.reown hc' ?_⟩;obtain⟨xs,hwn,hxl,h2,h3⟩:=h1.own qc _ hc';have e1:=n8 (λp=>PV.raw p.1) l;have e2:=n8 (λp=>PV.sl p.2) l;rw[e1]at hxl;refine⟨xs,by rw[EB]at hwn⊢;exact hwn,?_,λr hr=>by obtain⟨p,_,rfl⟩:=EH.1 hr;rfl,?_⟩
 ·rw[e2];refine L2.ofGet (by simpa using hxl.length) λi v p hi hp=> ?_;rw[EJ]at hp;obtain⟨pl,hpl,rfl⟩:=Ej.1 hp;obtain⟨p',hp',hr⟩:=hxl.getl hi;rw[EJ,hpl]at hp';cases hp';cases hr;exact(hfz pl (EC hpl)).weak (by simp)
 ·intro r hr p hp;obtain⟨pl,_,rfl⟩:=EH.1 hr;rw[EI]at hp;subst hp;rfl
end
theorem T.nameO {K:Ctx}{sl:List (Nat×SV)}{ow:List (Nat×Option Own)}{nx:Nat}{c:Code}{Q:Exit->St->Prop}(g o:Nat){c0:Own}(hg:true=true)(ho:(St.mk sl ow nx).f.own o=some c0)(k: ∀u,T K c ⟨(g,.eq u o)::sl,ow,nx⟩ Q):T K c ⟨sl,ow,nx⟩ Q:=
 ⟨λa w hr=>by obtain⟨u,hu⟩:=hr.nameO g hg ho;exact(k u).out a w hu⟩
def isC:Operand->Bool
 | .const _=>true
 |_=>false
def Cm (E:EnvF):Op->Bool
 | .move _| .assign _| .unOp .. | .fieldAddr .. | .field .. | .extract .. | .build .. | .makeFunc .. | .convert .. | .box .. =>true
 | .nilCheck x=>match E.get x with
  |some (.optr ..)=>true
  |some (.fptr ..)=>true
  |_=>false
 | .load _ x=>match E.get x with
  |some (.optr q _ _ _)=>match E.own q with
   |some (.box _ _)=>true
   |_=>false
  |_=>true
 | .binOp .quo _ _ y _| .binOp .rem _ _ y _| .binOp .shl _ _ y _| .binOp .shr _ _ y _=>isC y
 | .binOp .. =>true
 | .call { callee:= .builtin .len,.. }=>true
 | .call { callee:= .builtin .max,.. }=>true
 | .call { callee:= .builtin .min,.. }=>true
 |_=>false
def stepE (K:Ctx)(o:Oper):St->Option St
 |⟨sl,ow,nx⟩=>match o.dst with
  |none=>none
  |some d=>match K.can d with
   |false=>none
   |true=>match o.op with
    | .box _ x=>match(St.mk sl ow nx).f.get x with
     |some sx=>match sx.ff with
      |some (fr,p)=>some ⟨(d,.optr nx 0 0 0)::sl,(nx,some (.box fr p.cells))::ow,nx+1⟩
      |none=>none
     |none=>none
    |_=>match ev K.P (St.mk sl ow nx).f o with
     |some sv=>some ⟨(d,sv)::sl,ow,nx⟩
     |none=>none
def yB (K:Ctx)(o:Oper)(E:St):Option St:=
 match o.guard with
 |some _=>none
 |none=>match Cm E.f o.op with
  |true=>stepE K o E
  |false=>none
def AS (K:Ctx)(ops:Array Oper)(o:Oper)(E:St):Option St:=
 match wants ops E.f o with
 |some true=>stepE K o E
 |some false=>match o.dst with
  |some d=>match K.can d with
   |true=>match E with
    |⟨sl,ow,nx⟩=>some ⟨(d,.tup [])::sl,ow,nx⟩
   |false=>none
  |none=>none
 |none=>none
section
variable {K:Ctx}{ops:Array Oper}{dr:Bool}{o:Oper}{rest:List Oper}{R:St->Prop}{E E':St}
theorem J.stepE (hg:wants ops E.f o=some true)(h:stepE K o E=some E')(k:J K ops dr rest E' R):J K ops dr (o::rest) E R:=by
 obtain⟨sl,ow,nx⟩:=E;unfold Go.Proofs.YtopcjbahjjhdmaaGreat.stepE at h;simp only[]at h;split at h;·cases h
 ·rename_i d hd;split at h;·cases h
  ·rename_i hlt;split at h
   ·rename_i t x ho;split at h
    ·rename_i sx hx;split at h
     ·rename_i fr p hp;obtain rfl:=E7 h;exact J.bx ho hg hd hlt hx hp k
     ·cases h
    ·cases h
   ·split at h
    ·rename_i sv he;obtain rfl:=E7 h;exact J.e hg hd hlt he k
    ·cases h
theorem J.H (h:AS K ops o E=some E')(k:J K ops dr rest E' R):J K ops dr (o::rest) E R:=by
 obtain⟨sl,ow,nx⟩:=E;unfold AS at h;split at h;·rename_i hw;exact J.stepE hw h k
 ·rename_i hw;split at h
  ·rename_i d hd;split at h
   ·rename_i hlt;obtain rfl:=E7 h;exact J.skip hw hd hlt k
   ·cases h
  ·cases h
 ·cases h
theorem J.step1 (h:yB K o E=some E')(k:J K ops dr rest E' R):J K ops dr (o::rest) E R:=by
 unfold yB at h;split at h;·cases h
 ·rename_i hg;split at h;·exact J.stepE (by simp[wants,hg]) h k
  ·cases h
end
def AI (K:Ctx)(ops:Array Oper)(dr:Bool):List Oper->St->(St->Prop)->Prop
 | [],E,R=>R E
 |o::rest,E,R=>match yB K o E with
  |some E'=>AI K ops dr rest E' R
  |none=>J K ops dr (o::rest) E R
def DE (K:Ctx)(l:List Oper)(E:St):Bool:=
 match l with
 | []=>true
 |o::_=>(yB K o E).isSome
theorem jd {K:Ctx}{ops:Array Oper}{dr:Bool}{R:St->Prop}: ∀{l:List Oper} {E:St},AI K ops dr l E R->J K ops dr l E R
 | [],E,h=> .nil h
 |o::rest,E,h=>by
  simp only[AI]at h;split at h;·rename_i E' hs;exact J.step1 hs (jd h)
  ·exact h
theorem J.G {K:Ctx}{ops:Array Oper}{dr:Bool}{l:List Oper}{R:St->Prop}{E:St}(_:DE K l E=true)(h:AI K ops dr l E R):J K ops dr l E R:=jd h
def B9 (K:Ctx):Code->St->(Exit->St->Prop)->Prop
 | .seq x y,E,Q=>B9 K x E (sq K y Q)
 | .block id c,E,Q=>B9 K c E (bk id Q)
 | .region id ops false,E,Q=>AI K ops false ops.toList E (Q .normal)
 | .skip,E,Q=>Q .normal E
 | .exit id,E,Q=>Q (.exit id) E
 | .ret,E,Q=>Q .ret E
 | .label _,E,Q=>Q .normal E
 |c,E,Q=>T K c E Q
def DD:Code->Bool
 | .seq .. | .block .. | .region _ _ false| .skip| .exit _| .ret| .label _=>true
 |_=>false
theorem jc {K:Ctx}: ∀{c:Code} {E:St} {Q:Exit->St->Prop},B9 K c E Q->T K c E Q
 | .seq x y,E,Q,h=> .seq (jc h)
 | .block id c,E,Q,h=> .block (jc h)
 | .region id ops false,E,Q,h=> .r (jd h)
 | .region id ops true,E,Q,h=>h
 | .skip,E,Q,h=> .skip h
 | .exit id,E,Q,h=> .exit h
 | .ret,E,Q,h=> .ret h
 | .label l,E,Q,h=> .label h
 | .cond ..,_,_,h=>h
 | .loop _,_,_,h=>h
 | .rangeFunc ..,_,_,h=>h
 | .scope _,_,_,h=>h
 | .goto _,_,_,h=>h
 | .refuse _,_,_,h=>h
theorem T.G {K:Ctx}{c:Code}{E:St}{Q:Exit->St->Prop}(_:DD c=true)(h:B9 K c E Q):T K c E Q:=jc h
def uh (K:Ctx)(ops:Array Oper)(dr:Bool)(l:List Oper)(E:St)(R:St->Prop)(P:Prop):Prop:=P->J K ops dr l E R
def ug (K:Ctx)(c:Code)(E:St)(Q:Exit->St->Prop)(P:Prop):Prop:=P->T K c E Q
section
variable {K:Ctx}{ops:Array Oper}{dr:Bool}{l rest:List Oper}{o:Oper}{R:St->Prop}{E E':St}{c:Code}{Q:Exit->St->Prop}{P:Prop}
theorem stA (_:DE K l E=true):uh K ops dr l E R (AI K ops dr l E R):=λh=>jd h
theorem stB (h:AS K ops o E=some E'):uh K ops dr (o::rest) E R (J K ops dr rest E' R):=λk=>J.H h k
theorem tA (_:DD c=true):ug K c E Q (B9 K c E Q):=λh=>jc h
theorem tB {id:Nat}(hmix:K.P.follows .mixedOrders=true)(hok:okD ops ops.size=true):ug K (.region id ops true) E Q (J K ops true ops.toList E (Q .normal)):=λh=>T.rd hmix hok h
theorem J.A (h:P)(s:uh K ops dr l E R P:=by first|exact stA Y|exact stB Y):J K ops dr l E R:=s h
theorem J.N (h:P)(s:uh K ops dr l E R P:=by first|exact stA Y|exact stB Y):J K ops dr l E R:=s h
theorem T.A (h:P)(s:ug K c E Q P:=by first|exact tA Y|exact tB Y (by decide +kernel)):T K c E Q:=s h
theorem T.N (h:P)(s:ug K c E Q P:=by exact tA Y):T K c E Q:=s h
end
section
variable {K:Ctx}{ops:Array Oper}{dr:Bool}{o:Oper}{rest:List Oper}{sl:List (Nat×SV)}{ow:List (Nat×Option Own)}{nx:Nat}{R:St->Prop}{d:Nat}
theorem J.C {x:Operand}{args:Array Operand}{tys:Array TypeId}{f:FuncId}{first caps ps ps':List PV}{al fx:Bool}{res:List RV}(hspec:Spec K.P f al ps' res)
  (q:J K ops dr rest ⟨(d,RV.one (!al) nx res)::sl,c6 nx (RV.owns (!al) res) ow,nx+(RV.owns (!al) res).length⟩ R)
  (ho:o.op= .call { callee:= .value x,args:=args,argTypes:=tys }:=by exact Y) (hg:wants ops (St.mk sl ow nx).f o=some true:=by exact Y) (hd:o.dst=some d:=by exact Y) (hlt:K.can d=true:=by exact Y)
  (hx:(St.mk sl ow nx).f.get x=some (.val fx (.fn (.func f) first caps)):=by exact Y) (ha:cz (St.mk sl ow nx).f al args.toList=some ps:=by exact Y) (he:first++ps++caps=ps':=by exact Y):J K ops dr (o::rest) ⟨sl,ow,nx⟩ R:=
 J.cc ho hg hd hlt hx hspec ha he q
theorem J.I {t:TypeId}{x i:Operand}{sx:SV}{fr fi:Bool}{rows:List (List PV)}{r:List PV}{k:IntKind}{m:Int}{e:TypeId}{inf:TypeInfo}(hrow:rows[m.toNat]? =some r)(q:J K ops dr rest ⟨(d,.fptr fr r)::sl,ow,nx⟩ R)
  (ho:o.op= .indexAddr t x i:=by exact Y) (hg:wants ops (St.mk sl ow nx).f o=some true:=by exact Y) (hd:o.dst=some d:=by exact Y) (hlt:K.can d=true:=by exact Y)
  (hx:(St.mk sl ow nx).f.get x=some sx:=by exact Y) (hr:sx.ff=some (fr,.sl rows):=by exact Y) (hi:(St.mk sl ow nx).f.get i=some (.val fi (.int k m)):=by exact Y) (hu:K.P.underlying t=some (.slice e):=by exact Y) (hinf:K.P.info? e=some inf:=by exact Y)
  (hl:r.length=inf.size:=by exact Y) (h0:0<=m:=by omega):J K ops dr (o::rest) ⟨sl,ow,nx⟩ R:=
 J.i ho hg hd hlt hx hr hi hu hinf h0 hrow hl q
theorem J.V {t e:TypeId}{len:Nat}{fr:Bool}{parts:Array (Nat×Operand)}{rows:List (List PV)}{inf:TypeInfo}{z:Value}(q:J K ops dr rest ⟨(d,.val fr (.sl rows))::sl,ow,nx⟩ R)
  (ho:o.op= .buildSlice t len parts:=by exact Y) (hg:wants ops (St.mk sl ow nx).f o=some true:=by exact Y) (hd:o.dst=some d:=by exact Y) (hlt:K.can d=true:=by exact Y)
  (hu:K.P.underlying t=some (.slice e):=by exact Y) (hinf:K.P.info? e=some inf:=by exact Y) (hz:inf.zero=some z:=by exact Y) (hzs:z.cells.size=inf.size:=by exact Y) (hr:dw (St.mk sl ow nx).f inf.size 0 parts.toList=some (fr,rows):=by exact Y) (hl:rows.length=len:=by exact Y) (hm:Nat.ble (len*inf.size) 16777216=true:=by exact Y) (hm2:Nat.ble len 16777216=true:=by exact Y):J K ops dr (o::rest) ⟨sl,ow,nx⟩ R:=
 J.bv ho hg hd hlt hu hinf hz hzs hr hl hm hm2 q
theorem J.O {t e:TypeId}{len:Nat}{fr:Bool}{parts:Array (Nat×Operand)}{rows:List (List PV)}{inf:TypeInfo}{z:Value}(q:J K ops dr rest ⟨(d,.ref nx)::sl,(nx,some (.sl e inf.size fr rows))::ow,nx+1⟩ R)
  (ho:o.op= .buildSlice t len parts:=by exact Y) (hg:wants ops (St.mk sl ow nx).f o=some true:=by exact Y) (hd:o.dst=some d:=by exact Y) (hlt:K.can d=true:=by exact Y)
  (hu:K.P.underlying t=some (.slice e):=by exact Y) (hinf:K.P.info? e=some inf:=by exact Y) (hz:inf.zero=some z:=by exact Y) (hzs:z.cells.size=inf.size:=by exact Y) (hr:dw (St.mk sl ow nx).f inf.size 0 parts.toList=some (fr,rows):=by exact Y) (hl:rows.length=len:=by exact Y) (hm:Nat.ble (len*inf.size) 16777216=true:=by exact Y) (hm2:Nat.ble len 16777216=true:=by exact Y):J K ops dr (o::rest) ⟨sl,ow,nx⟩ R:=
 J.bo ho hg hd hlt hu hinf hz hzs hr hl hm hm2 q
theorem J.B {P:Prop}{l:List Oper}{E:St}(h:P)(s:P->J K ops dr l E R:=by
 refine λh=> ?_
 repeat (refine .A ?_;conv=>whnf)
 exact h):J K ops dr l E R:=s h
theorem T.B {P:Prop}{c:Code}{E:St}{Q:Exit->St->Prop}(h:P)(s:P->T K c E Q:=by
 refine λh=> ?_
 repeat (refine .A ?_;conv=>whnf)
 exact h):T K c E Q:=s h
theorem J.M {P:Prop}{l:List Oper}{E:St}(h:P)(s:P->J K ops dr l E R:=by
 refine λh=> ?_
 repeat (refine .N ?_;conv=>whnf)
 exact h):J K ops dr l E R:=s h
theorem T.M {P:Prop}{c:Code}{E:St}{Q:Exit->St->Prop}(h:P)(s:P->T K c E Q:=by
 refine λh=> ?_
 repeat (refine .N ?_;conv=>whnf)
 exact h):T K c E Q:=s h
theorem J.W {t:TypeId}{x y:Operand}{q i off st:Nat}{c c':Own}{sy:SV}{fp:Bool}{p:PV}{inf:TypeInfo}(k:J K ops false rest ⟨sl,(q,some c')::ow,nx⟩ R)
  (ho:o.op= .store t x y:=by exact Y) (hg:wants ops (St.mk sl ow nx).f o=some true:=by exact Y) (hd:o.dst=none:=by exact Y) (hx:(St.mk sl ow nx).f.get x=some (.optr q i off st):=by exact Y) (hq:(St.mk sl ow nx).f.own q=some c:=by exact Y) (hy:(St.mk sl ow nx).f.get y=some sy:=by exact Y) (hp:sy.ff=some (fp,p):=by exact Y)
  (hi:K.P.info? t=some inf:=by exact Y) (hs:p.cells.length=inf.size:=by exact Y) (hc:c.put i off st fp p.cells=some c':=by exact Y):J K ops false (o::rest) ⟨sl,ow,nx⟩ R:=J.w ho hg hd hx hq hy hp hi hs hc k
theorem J.L {t:TypeId}{ps:List PV}{inf:TypeInfo}{z:Value}(q:J K ops dr rest ⟨(d,.optr nx 0 0 0)::sl,(nx,some (.box true ps))::ow,nx+1⟩ R)
  (ho:o.op= .alloc t:=by exact Y) (hg:wants ops (St.mk sl ow nx).f o=some true:=by exact Y) (hd:o.dst=some d:=by exact Y) (hlt:K.can d=true:=by exact Y) (hi:K.P.info? t=some inf:=by exact Y) (hz:inf.zero=some z:=by exact Y) (hps:gJ z.cells.toList=some ps:=by exact Y):J K ops dr (o::rest) ⟨sl,ow,nx⟩ R:=J.al ho hg hd hlt hi hz hps q
end
theorem r1 {P:Program}{E:EnvF}{al:Bool}{t:Tmp}{sv:SV}{fr:Bool}{p p':PV}(hs:E.slot t=some sv:=by exact Y)(hf:sv.ff=some (fr,p):=by exact Y)(he:p=p':=by exact Y)(hfr:al=false->fr=true:=by exact λ_=>rfl): ∃os,Ret P E al [.tmp t] [.val p'] os:=⟨_,.v hs hf he hfr .nil⟩
theorem r2 {P:Program}{E:EnvF}{al:Bool}{t t2:Tmp}{sv sv2:SV}{fr fr2:Bool}{p p' p2 p2':PV}(hs:E.slot t=some sv:=by exact Y)(hf:sv.ff=some (fr,p):=by exact Y)(he:p=p':=by exact Y)(hfr:al=false->fr=true:=by exact λ_=>rfl)(hs2:E.slot t2=some sv2:=by exact Y)(hf2:sv2.ff=some (fr2,p2):=by exact Y)(he2:p2=p2':=by exact Y)(hfr2:al=false->fr2=true:=by exact λ_=>rfl): ∃os,Ret P E al [.tmp t,.tmp t2] [.val p',.val p2'] os:=⟨_,.v hs hf he hfr (.v hs2 hf2 he2 hfr2 .nil)⟩
def Dl (E:St):List Nat:=E.sl.map (·.1)
def B2 (k:Nat):List (Nat×SV)->Nat
 | []=>0
 |(s,sv)::l=>match sv with
  | .ref o| .optr o _ _ _| .eq _ o=>match Nat.beq o k with
   |true=>s
   |false=>B2 k l
  |_=>B2 k l
def Bi (sl:List (Nat×SV)):Nat->Nat->List Nat
 |_,0=>[]
 |k,n+1=>B2 k sl::Bi sl (k+1) n
def DF (E:St):List Nat:=Bi E.sl 0 E.nx
theorem T.K {K:Ctx}{c:Code}{E E':St}{Q:Exit->St->Prop}(k:T K c E' Q)(h:lD E (Dl E') (DF E')=E':=by exact Y)(hd:dup (iu E.f (DF E'))=false:=by exact Y):T K c E Q:=T.canon hd (h▸k)
section
variable {K:Ctx}{ops:Array Oper}{dr:Bool}{o:Oper}{rest:List Oper}{sl:List (Nat×SV)}{ow:List (Nat×Option Own)}{nx:Nat}{R:St->Prop}{d:Nat}{P:Prop}
theorem J.D {x:Operand}{args:Array Operand}{tys:Array TypeId}{f:FuncId}{first caps ps ps':List PV}{al fx:Bool}{res:List RV}(hspec:Spec K.P f al ps' res)
  (q:P)
  (ho:o.op= .call { callee:= .value x,args:=args,argTypes:=tys }:=by exact Y) (hg:wants ops (St.mk sl ow nx).f o=some true:=by exact Y) (hd:o.dst=some d:=by exact Y) (hlt:K.can d=true:=by exact Y)
  (hx:(St.mk sl ow nx).f.get x=some (.val fx (.fn (.func f) first caps)):=by exact Y) (ha:cz (St.mk sl ow nx).f al args.toList=some ps:=by exact Y) (he:first++ps++caps=ps':=by exact Y) (s:P->J K ops dr rest ⟨(d,RV.one (!al) nx res)::sl,c6 nx (RV.owns (!al) res) ow,nx+(RV.owns (!al) res).length⟩ R:=by
 refine λh=> ?_
 repeat (refine .A ?_;conv=>whnf)
 exact h):J K ops dr (o::rest) ⟨sl,ow,nx⟩ R:=J.cc ho hg hd hlt hx hspec ha he (s q)
theorem J.F {t:TypeId}{x i:Operand}{sx:SV}{fr fi:Bool}{rows:List (List PV)}{r:List PV}{k:IntKind}{m:Int}{e:TypeId}{inf:TypeInfo}(hrow:rows[m.toNat]? =some r)(q:P)
  (ho:o.op= .indexAddr t x i:=by exact Y) (hg:wants ops (St.mk sl ow nx).f o=some true:=by exact Y) (hd:o.dst=some d:=by exact Y) (hlt:K.can d=true:=by exact Y)
  (hx:(St.mk sl ow nx).f.get x=some sx:=by exact Y) (hr:sx.ff=some (fr,.sl rows):=by exact Y) (hi:(St.mk sl ow nx).f.get i=some (.val fi (.int k m)):=by exact Y) (hu:K.P.underlying t=some (.slice e):=by exact Y) (hinf:K.P.info? e=some inf:=by exact Y)
  (hl:r.length=inf.size:=by exact Y) (h0:0<=m:=by omega) (s:P->J K ops dr rest ⟨(d,.fptr fr r)::sl,ow,nx⟩ R:=by
 refine λh=> ?_
 repeat (refine .A ?_;conv=>whnf)
 exact h):J K ops dr (o::rest) ⟨sl,ow,nx⟩ R:=J.i ho hg hd hlt hx hr hi hu hinf h0 hrow hl (s q)
theorem J.Z {t e:TypeId}{len:Nat}{fr:Bool}{parts:Array (Nat×Operand)}{rows:List (List PV)}{inf:TypeInfo}{z:Value}(q:P)
  (ho:o.op= .buildSlice t len parts:=by exact Y) (hg:wants ops (St.mk sl ow nx).f o=some true:=by exact Y) (hd:o.dst=some d:=by exact Y) (hlt:K.can d=true:=by exact Y)
  (hu:K.P.underlying t=some (.slice e):=by exact Y) (hinf:K.P.info? e=some inf:=by exact Y) (hz:inf.zero=some z:=by exact Y) (hzs:z.cells.size=inf.size:=by exact Y) (hr:dw (St.mk sl ow nx).f inf.size 0 parts.toList=some (fr,rows):=by exact Y) (hl:rows.length=len:=by exact Y) (hm:Nat.ble (len*inf.size) 16777216=true:=by exact Y) (hm2:Nat.ble len 16777216=true:=by exact Y) (s:P->J K ops dr rest ⟨(d,.val fr (.sl rows))::sl,ow,nx⟩ R:=by
 refine λh=> ?_
 repeat (refine .A ?_;conv=>whnf)
 exact h):J K ops dr (o::rest) ⟨sl,ow,nx⟩ R:=J.bv ho hg hd hlt hu hinf hz hzs hr hl hm hm2 (s q)
theorem J.Q {t e:TypeId}{len:Nat}{fr:Bool}{parts:Array (Nat×Operand)}{rows:List (List PV)}{inf:TypeInfo}{z:Value}(q:P)
  (ho:o.op= .buildSlice t len parts:=by exact Y) (hg:wants ops (St.mk sl ow nx).f o=some true:=by exact Y) (hd:o.dst=some d:=by exact Y) (hlt:K.can d=true:=by exact Y)
  (hu:K.P.underlying t=some (.slice e):=by exact Y) (hinf:K.P.info? e=some inf:=by exact Y) (hz:inf.zero=some z:=by exact Y) (hzs:z.cells.size=inf.size:=by exact Y) (hr:dw (St.mk sl ow nx).f inf.size 0 parts.toList=some (fr,rows):=by exact Y) (hl:rows.length=len:=by exact Y) (hm:Nat.ble (len*inf.size) 16777216=true:=by exact Y) (hm2:Nat.ble len 16777216=true:=by exact Y) (s:P->J K ops dr rest ⟨(d,.ref nx)::sl,(nx,some (.sl e inf.size fr rows))::ow,nx+1⟩ R:=by
 refine λh=> ?_
 repeat (refine .A ?_;conv=>whnf)
 exact h):J K ops dr (o::rest) ⟨sl,ow,nx⟩ R:=J.bo ho hg hd hlt hu hinf hz hzs hr hl hm hm2 (s q)
theorem J.X {t:TypeId}{x y:Operand}{n i off st:Nat}{c c':Own}{sy:SV}{fp:Bool}{p:PV}{inf:TypeInfo}(q:P)
  (ho:o.op= .store t x y:=by exact Y) (hg:wants ops (St.mk sl ow nx).f o=some true:=by exact Y) (hd:o.dst=none:=by exact Y) (hx:(St.mk sl ow nx).f.get x=some (.optr n i off st):=by exact Y) (hq:(St.mk sl ow nx).f.own n=some c:=by exact Y) (hy:(St.mk sl ow nx).f.get y=some sy:=by exact Y) (hp:sy.ff=some (fp,p):=by exact Y)
  (hi:K.P.info? t=some inf:=by exact Y) (hs:p.cells.length=inf.size:=by exact Y) (hc:c.put i off st fp p.cells=some c':=by exact Y) (s:P->J K ops false rest ⟨sl,(n,some c')::ow,nx⟩ R:=by
 refine λh=> ?_
 repeat (refine .A ?_;conv=>whnf)
 exact h):J K ops false (o::rest) ⟨sl,ow,nx⟩ R:=J.w ho hg hd hx hq hy hp hi hs hc (s q)
end
section
variable {K:Ctx}{x y:Code}{W:St}{Q:Exit->St->Prop}{f b:Bool}{o:Operand}{P:Prop}
theorem T.C (q:P)(hc:W.f.get o=some (.val f (.bool true)):=by exact Y)(s:P->T K x W Q:=by
 refine λh=> ?_
 repeat (refine .A ?_;conv=>whnf)
 exact h):T K (.cond o x y) W Q:=T.ct hc (s q)
theorem T.D (q:P)(hc:W.f.get o=some (.val f (.bool false)):=by exact Y)(s:P->T K y W Q:=by
 refine λh=> ?_
 repeat (refine .A ?_;conv=>whnf)
 exact h):T K (.cond o x y) W Q:=T.cf hc (s q)
theorem T.E (hc:W.f.get o=some (.val f (.bool b)))(hb:b=true)(q:P)(s:P->T K x W Q:=by
 refine λh=> ?_
 repeat (refine .A ?_;conv=>whnf)
 exact h):T K (.cond o x y) W Q:=T.ct2 hc hb (s q)
theorem T.F (hc:W.f.get o=some (.val f (.bool b)))(hb:b=false)(q:P)(s:P->T K y W Q:=by
 refine λh=> ?_
 repeat (refine .A ?_;conv=>whnf)
 exact h):T K (.cond o x y) W Q:=T.cf2 hc hb (s q)
end
end Go.Proofs.YtopcjbahjjhdmaaGreat
