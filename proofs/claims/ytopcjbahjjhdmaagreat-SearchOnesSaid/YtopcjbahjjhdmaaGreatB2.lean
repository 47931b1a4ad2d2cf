/- The texts CoreI, CoreJ, CoreK, CoreL, CoreM, CoreN, CoreO of the workplace, joined. -/
import Derived.Test.YtopcjbahjjhdmaaGreatB1
namespace Go.Proofs.YtopcjbahjjhdmaaGreat
open Go Go.RowKit
set_option linter.unusedVariables false
set_option linter.unusedSimpArgs false
def fine:Exit->Bool
 | .panic _| .outgrown=>false
 |_=>true
def Cn (K:Ctx)(Q:Exit->St->Prop)(e:Exit)(a:Act)(w:World):Prop:=fine e=true/\∃E,Q e E/\Rel K E a w
structure T (K:Ctx)(c:Code)(E:St)(Q:Exit->St->Prop):Prop where
 out: ∀(a:Act) (w:World),Rel K E a w->c.wp K.P (Cn K Q) a w
def sq (K:Ctx)(b:Code)(Q:Exit->St->Prop):Exit->St->Prop
 | .normal,E=>T K b E Q
 |e,E=>Q e E
def bk (id:Nat)(Q:Exit->St->Prop):Exit->St->Prop
 | .exit i,E=>match Nat.beq i id with
  |true=>Q .normal E
  |false=>Q (.exit i) E
 |e,E=>Q e E
def lp (K:Ctx)(c:Code)(Q:Exit->St->Prop):Exit->St->Prop
 | .normal,E=>T K (.loop c) E Q
 |e,E=>Q e E
theorem pt (id:Nat): ∀(k k':List Item),exitTo id k=some k'->k'.length<=k.length
 | [],k',h=>by simp[exitTo]at h
 |x::k,k',h=>by
  have ih:=pt id k k';cases x with
  |inBlock i=>
   simp only[exitTo]at h;split at h;·obtain rfl:=D3 h;simp
   ·have:=ih h;simp;omega
  |_=>simp only[exitTo]at h;have:=ih h;simp;omega
theorem steps_behind {P:Program}{m m1 m':Machine}(h1:step P m= .next m1)(h:Steps P m m')(hne:m≠m'):Steps P m1 m':=by
 obtain⟨n,hn⟩:=h;cases n with
 |zero=>simp[runN]at hn;exact DU hn hne
 |succ n=>simp only[runN,h1]at hn;exact⟨n,hn⟩
theorem mw {fr fr':Frame}{cs cs':List Frame}{w w':World}(h:lone fr cs w=lone fr' cs' w'):fr=fr':=by
 simp only[lone,Machine.mk.injEq]at h;have h2:=h.2.1;have:=congrArg (λ(a:Array Goroutine)=>a[0]?) h2;simp at this;exact this.1
theorem nU {P:Program}{c:Code}{Q:Exit->Act->World->Prop}{a:Act}{w:World}(hQ: ∀e a w,Q e a w->fine e=true/\∀l,e≠.goto l)
  (h:c.wp P (Exit.then ((Code.loop c).wp P Q) Q) a w):(Code.loop c).wp P Q a w:=by
 intro b k cs;obtain⟨e,a1,w1,hq,harr⟩:=h b (.inLoop c::k) cs;cases e with
 |normal=>
  obtain⟨e2,a2,w2,hq2,harr2⟩:=hq b k cs;obtain⟨hf,hng⟩:=hQ e2 a2 w2 hq2;refine⟨e2,a2,w2,hq2,.of_steps (.head step_loop (Steps.trans harr (.one step_inLoop))) ?_⟩;have hst:step P (lone (b.at a1 (.code (.loop c)::k)) cs w1)= .next (lone (b.at a1 (.code c:: .inLoop c::k)) cs w1):=step_loop;cases e2 with
  |normal=>
   refine steps_behind hst harr2 λe=> ?_;have:=congrArg (λf:Frame=>f.todo.length) (mw e);simp[Frame.at]at this
  |exit id=>
   intro k' hk;refine steps_behind hst (harr2 k' hk) λe=> ?_;have h1:=congrArg (λf:Frame=>f.todo.length) (mw e);have h2:=pt id k k' hk;simp[Frame.at]at h1;omega
  |goto l=>exact DU Y (hng l)
  |ret=>
   obtain⟨todo,hs⟩:=harr2;refine⟨todo,steps_behind hst hs λe=> ?_⟩;have h1:=congrArg (λf:Frame=>f.mode) (mw e);simp[Frame.at]at h1
  |panic ch=>simp[fine]at hf
  |outgrown=>simp[fine]at hf
 |exit id=>exact⟨_,a1,w1,hq,.of_steps (.one step_loop) (.pass (x:= .inLoop c) rfl (λ_ _=> .inl (by simp)) harr)⟩
 |goto l=>exact⟨_,a1,w1,hq,.of_steps (.one step_loop) (.pass (x:= .inLoop c) rfl (λ_ _=> .inl (by simp)) harr)⟩
 |ret=>exact⟨_,a1,w1,hq,.of_steps (.one step_loop) (.pass (x:= .inLoop c) rfl (λ_ _=> .inl (by simp)) harr)⟩
 |panic ch=>exact⟨_,a1,w1,hq,.of_steps (.one step_loop) (.pass (x:= .inLoop c) rfl (λ_ _=> .inl (by simp)) harr)⟩
 |outgrown=>exact⟨_,a1,w1,hq,.of_steps (.one step_loop) (.pass (x:= .inLoop c) rfl (λ_ _=> .inl (by simp)) harr)⟩
section
variable {K:Ctx}{c x y:Code}{E E':St}{Q:Exit->St->Prop}{sl:List (Nat×SV)}{ow:List (Nat×Option Own)}{nx:Nat}
theorem T.sub (h: ∀a w,Rel K E a w->Rel K E' a w)(k:T K c E' Q):T K c E Q:=⟨λa w hr=>k.out a w (h a w hr)⟩
theorem T.mono {Q':Exit->St->Prop}(k:T K c E Q)(h: ∀e E,Q e E->Q' e E):T K c E Q':=⟨λa w hr=>wp_mono (k.out a w hr) λe a w ⟨hf,E',hq,hr⟩=>⟨hf,E',h _ _ hq,hr⟩⟩
theorem T.skip (h:Q .normal E):T K .skip E Q:=⟨λa w hr=>wp_skip ⟨rfl,E,h,hr⟩⟩
theorem T.label {l:Nat}(h:Q .normal E):T K (.label l) E Q:=⟨λa w hr=>wp_label ⟨rfl,E,h,hr⟩⟩
theorem T.exit {id:Nat}(h:Q (.exit id) E):T K (.exit id) E Q:=⟨λa w hr=>wp_exit ⟨rfl,E,h,hr⟩⟩
theorem T.ret (h:Q .ret E):T K .ret E Q:=⟨λa w hr=>wp_ret ⟨rfl,E,h,hr⟩⟩
theorem T.seq (h:T K x E (sq K y Q)):T K (.seq x y) E Q:=
 ⟨λa w hr=>wp_seq (wp_mono (h.out a w hr) λe a w ⟨hf,E',hq,hr'⟩=>by
  cases e with
  |normal=>exact hq.out a w hr'
  |panic ch=>simp[fine]at hf
  |outgrown=>simp[fine]at hf
  |_=>exact⟨rfl,E',hq,hr'⟩)⟩
theorem T.block {id:Nat}(h:T K c E (bk id Q)):T K (.block id c) E Q:=
 ⟨λa w hr=>wp_block (wp_mono (h.out a w hr) λe a w ⟨hf,E',hq,hr'⟩=>by
  cases e with
  |exit i=>
   simp only[bk]at hq;simp only[Exit.inBlock];by_cases e:i=id
   ·subst e;rw[D4 Y];rw[HB]at hq;exact⟨rfl,E',hq,hr'⟩
   ·rw[D2 e];have:Nat.beq i id=false:=by
     cases hb:Nat.beq i id with
     |false=>rfl
     |true=>exact DU (EV hb) e
    rw[this]at hq;exact⟨rfl,E',hq,hr'⟩
  |panic ch=>simp[fine]at hf
  |outgrown=>simp[fine]at hf
  |_=>exact⟨rfl,E',hq,hr'⟩)⟩
theorem T.loop (hg: ∀l E,¬Q (.goto l) E)(h:T K c E (lp K c Q)):T K (.loop c) E Q:=
 ⟨λa w hr=>nU (λe a w ⟨hf,E',hq,_⟩=>⟨hf,λl e=>hg l E' (e▸hq)⟩) (wp_mono (h.out a w hr) λe a w ⟨hf,E',hq,hr'⟩=>by
  cases e with
  |normal=>exact hq.out a w hr'
  |panic ch=>simp[fine]at hf
  |outgrown=>simp[fine]at hf
  |_=>exact⟨rfl,E',hq,hr'⟩)⟩
theorem T.cond {f b:Bool}{o:Operand}(hc:E.f.get o=some (.val f (.bool b)))(ht:b=true->T K x E Q)(hf:b=false->T K y E Q):T K (.cond o x y) E Q:=
 ⟨λa w hr=>by
  obtain⟨φ,hφ⟩:=hr;obtain⟨hv,_⟩:=ae hφ hc;generalize he:a.eval o=v at hv;cases hv;exact wp_cond_split he (λhb=>(ht hb).out a w ⟨φ,hφ⟩) (λhb=>(hf hb).out a w ⟨φ,hφ⟩)⟩
theorem T.ct {f:Bool}{o:Operand}(hc:E.f.get o=some (.val f (.bool true)))(ht:T K x E Q):T K (.cond o x y) E Q:= .cond hc (λ_=>ht) (λh=>by cases h)
theorem T.cf {f:Bool}{o:Operand}(hc:E.f.get o=some (.val f (.bool false)))(hf:T K y E Q):T K (.cond o x y) E Q:= .cond hc (λh=>by cases h) (λ_=>hf)
theorem T.cd {f:Bool}{p:Prop}[Decidable p]{o:Operand}(hc:E.f.get o=some (.val f (.bool (decide p))))(ht:p->T K x E Q)(hf: ¬p->T K y E Q):T K (.cond o x y) E Q:=
 .cond hc (λh=>ht (EL h)) (λh=>hf (of_decide_eq_false h))
theorem T.region {id:Nat}{ops:Array Oper}(h:TO K ops ops.toList E (Q .normal)):T K (.region id ops false) E Q:=
 ⟨λa w hr=>wp_region_list (h.out a w _ hr λE' a' w' hq hr'=>⟨rfl,E',hq,hr'⟩)⟩
theorem Rel.frz {s o:Nat}{e:TypeId}{sz:Nat}{fr:Bool}{rows:List (List PV)}(hM: ∀b,¬K.M b)(hs:lk sl s=some (.ref o))(ho:(St.mk sl ow nx).f.own o=some (.sl e sz fr rows))(a:Act)(w:World)(h:Rel K ⟨sl,ow,nx⟩ a w):
  Rel K ⟨(s,.val fr (.sl rows))::sl,(o,none)::ow,nx⟩ a w:=by
 obtain⟨φ,hφ⟩:=h;have hown': ∀q c,(St.mk ((s,.val fr (.sl rows))::sl) ((o,none)::ow) nx).f.own q=some c->q≠o/\(St.mk sl ow nx).f.own q=some c:=by
  intro q c hq;simp only[St.f,ai]at hq;by_cases e:o=q;·rw[D4 e]at hq;cases hq
  ·rw[D2 e]at hq;exact⟨Ne.symm e,hq⟩
 have hZ: ∀f b,Zf K (St.mk sl ow nx).f φ f b->Zf K (St.mk ((s,.val fr (.sl rows))::sl) ((o,none)::ow) nx).f φ f b:=
  λf b hb=>⟨⟨hb.1.1,λq c hq=>hb.1.2 q c (hown' q c hq).2⟩,hb.2⟩
 refine⟨φ,hφ.df,hφ.sz,hφ.old,hφ.kept,?_,?_,?_,?_,?_,?_⟩
 ·intro q c hq;exact(hφ.own q c (hown' q c hq).2).mono (λ_ _=>rfl) λf b hb _=>⟨hZ f b hb,rfl⟩
 ·intro q c g hq;exact hφ.mine q c g (hown' q c hq).2
 ·intro q c hq;exact hφ.inU q c (hown' q c hq).2
 ·intro q q' c c' g hq hq';exact hφ.dis q q' c c' g (hown' q c hq).2 (hown' q' c' hq').2
 ·intro t sv hsv;rcases slot_put t sv hsv with ⟨rfl,rfl⟩|⟨_,h⟩
  ·obtain⟨v,hv,hr⟩:=hφ.slot t _ hs;refine⟨v,hv,?_⟩;simp only[aU,ay]at hr;subst hr;obtain⟨xs,hwn,hl,h1,h2⟩:=hφ.own o _ ho;have hl':L2 (Rep w (Zf K (St.mk ((t,.val fr (.sl rows))::sl) ((o,none)::ow) nx).f φ fr)) xs rows.flatten:=Rep.monoL (λb hb _=>⟨hZ fr b hb,rfl⟩) hl;have hcell:=λg hg=>hwn.cells (g:=g) hg;have hlt:=hwn.lt;rcases hwn.2 with ⟨hv0,hn⟩|⟨g,cap,cur,hv0,_,hgc,hnc,hcm,_⟩
   ·show Rep w _ (φ o) (.sl rows);rw[hv0];have:rows=[]:=DP hn;subst this;exact .nilsl
   ·show Rep w _ (φ o) (.sl rows);have hm:=hφ.mine o _ g ho (by rw[hv0];exact .inl Y);have hge:K.w0.heap.size<=g:=hm.resolve_right (hM g);rw[hv0]at hcell hlt⊢;refine .sl g 0 cap sz rows xs ⟨⟨.inl hge,λq c hq hvq=> ?_⟩,λ_=>K.hF _ hge⟩ (hlt g Y).2 h1 h2 (λj v hj=> ?_) hnc hcm hl'
    ·obtain⟨hne,hq'⟩:=hown' q c hq;exact hne (hφ.dis q o c _ g hq' ho hvq (by rw[hv0];exact .inl Y))
    ·have:=hcell g Y j v hj;rw[bD]at this;exact bY hgc this
  ·obtain⟨v,hv,hr⟩:=hφ.slot t sv h;exact⟨v,hv,hr.mono (hφ.sin t sv h) (λf b hb _=>⟨hZ f b hb,rfl⟩) (λ_ _=>rfl)⟩
 ·intro t sv hsv;rcases slot_put t sv hsv with ⟨rfl,rfl⟩|⟨_,h⟩;·trivial
  ·exact hφ.sin t sv h
theorem Rel.own0 {s:Nat}(e:TypeId)(sz:Nat)(hs:lk sl s=some .nilsl)(a:Act)(w:World)(h:Rel K ⟨sl,ow,nx⟩ a w):
  Rel K ⟨(s,.ref nx)::sl,(nx,some (.sl e sz true []))::ow,nx+1⟩ a w:=by
 obtain⟨φ,hφ⟩:=h;have hadd:=hφ.add (Below.refl _ _) nx [.sl e sz true []] [.slice none 0 0] (λi h1 _ h3=>DU h3 (HH.2 h1)) Y (λi c v hc hv=>by
  cases i with
  |zero=>
   simp at hc hv;subst hc hv;exact⟨⟨[],World.ownsRow_nil w 0 e sz,.nil,by simp,by simp⟩,λg hg=>by simp[VB,ax]at hg⟩
  |succ i=>simp at hc) (λi j v v' g hi hj hv _=>by cases i<;>cases j<;>simp_all)
 have hU:em (· <nx) nx [.sl e sz true []]=(· <nx+1):=(by funext i;simp only[em,eq_iff_iff,EW];omega);have h2:RelW K (St.mk sl ((nx,some (.sl e sz true []))::ow) (nx+1)).f (· <nx+1) (bI φ nx [.slice none 0 0]) a w:=by
  have:=sg sl ow nx (nx+1) [.sl e sz true []];simp only[cw]at this;rw[this,<-hU];exact hadd
 refine⟨_,h2.df,h2.sz,h2.old,h2.kept,h2.own,h2.mine,h2.inU,h2.dis,?_,?_⟩
 ·intro t sv hsv;rcases slot_put t sv hsv with ⟨rfl,rfl⟩|⟨_,h⟩
  ·obtain⟨v,hv,hr⟩:=hφ.slot t _ hs;refine⟨v,hv,?_⟩;simp only[aU,ay]at hr⊢;rw[hr];simp[bI]
  ·exact h2.slot t sv h
 ·intro t sv hsv;rcases slot_put t sv hsv with ⟨rfl,rfl⟩|⟨_,h⟩;·exact Eh _
  ·exact h2.sin t sv h
def idx:List Nat->Nat->Option Nat
 | [],_=>none
 |i::is,o=>match Nat.beq i o with
  |true=>some 0
  |false=>match idx is o with
   |some k=>some (k+1)
   |none=>none
def dN (ids:List Nat):SV->Option SV
 | .val fr p=>some (.val fr p)
 | .nilsl=>some .nilsl
 | .ref o=>match idx ids o with
  |some k=>some (.ref k)
  |none=>none
 | .optr o i off st=>match idx ids o with
  |some k=>some (.optr k i off st)
  |none=>none
 | .fptr fr cs=>some (.fptr fr cs)
 | .fix v p=>some (.fix v p)
 | .fref f o=>match idx ids o with
  |some k=>some (.fref f k)
  |none=>none
 | .eq u o=>match idx ids o with
  |some k=>some (.eq u k)
  |none=>none
 | .tupB _ _=>none
def fA (E:EnvF)(ids:List Nat):List Nat->List (Nat×SV)
 | []=>[]
 |s::ss=>match E.slot s with
  |some sv=>match dN ids sv with
   |some sv'=>(s,sv')::fA E ids ss
   |none=>fA E ids ss
  |none=>fA E ids ss
def jM (E:EnvF):Nat->List Nat->List (Nat×Option Own)
 |_,[]=>[]
 |k,o::os=>(k,E.own o)::jM E (k+1) os
def Di:Option SV->Nat
 |some (.ref o)=>o
 |some (.optr o _ _ _)=>o
 |some (.eq _ o)=>o
 |_=>0
def gV (E:EnvF):List Nat->List Nat
 | []=>[]
 |s::ss=>Di (E.slot s)::gV E ss
def dup:List Nat->Bool
 | []=>false
 |i::is=>match idx is i with
  |some _=>true
  |none=>dup is
def kF (E:St)(keep os:List Nat):St:=⟨fA E.f (gV E.f os) keep,jM E.f 0 (gV E.f os),os.length⟩
theorem d6: ∀(is:List Nat) (o k:Nat),idx is o=some k->is[k]? =some o
 | [],o,k,h=>by simp[idx]at h
 |i::is,o,k,h=>by
  simp only[idx]at h;split at h
  ·rename_i hb;obtain rfl:=D3 h;simp[EV hb]
  ·split at h
   ·rename_i k' hk;obtain rfl:=D3 h;simpa using d6 is o k' hk
   ·cases h
theorem uG: ∀(is:List Nat) (o:Nat),idx is o=none->o∉is
 | [],o,_=>by simp
 |i::is,o,h=>by
  simp only[idx]at h;split at h;·cases h
  ·rename_i hb;split at h;·cases h
   ·rename_i hn;intro hm;cases hm with
    |head=>rw[HB]at hb;cases hb
    |tail _ hm=>exact uG is o hn hm
theorem fz: ∀(is:List Nat),dup is=false->∀(i j o:Nat),is[i]? =some o->is[j]? =some o->i=j
 | [],_,i,j,o,h,_=>by simp at h
 |x::is,hd,i,j,o,hi,hj=>by
  simp only[dup]at hd;split at hd;·cases hd
  ·rename_i hn;have hx:=uG is x hn;cases i with
   |zero=>
    cases j with
    |zero=>rfl
    |succ j=>simp at hi hj;subst hi;exact DU (D7 hj) hx
   |succ i=>
    cases j with
    |zero=>simp at hi hj;subst hj;exact DU (D7 hi) hx
    |succ j=>simp at hi hj;rw[fz is hd i j o hi hj]
theorem o3 (V:EnvF): ∀(is:List Nat) (n o:Nat),(lk (jM V n is) o).join=if n<=o then(is[o-n]?).bind V.own else none
 | [],n,o=>by simp[jM,lk]
 |i::is,n,o=>by
  simp only[jM,ai];by_cases e:n=o;·subst e;simp
  ·rw[D2 e,o3 V is (n+1) o];by_cases h:n+1<=o
   ·rw[D4 h,D4 (by omega)];obtain⟨k,rfl⟩: ∃k,o=n+1+k:=⟨o-(n+1),by omega⟩;have e1:n+1+k-(n+1)=k:=(by omega);have e2:n+1+k-n=k+1:=(by omega);rw[e1,e2,El]
   ·rw[D2 h,D2 (by omega)]
theorem fT (V:EnvF)(ids:List Nat): ∀(ss:List Nat) (s:Nat) (sv:SV),lk (fA V ids ss) s=some sv->∃sv0,V.slot s=some sv0/\dN ids sv0=some sv
 | [],s,sv,h=>by simp[fA,lk]at h
 |t::ss,s,sv,h=>by
  simp only[fA]at h;split at h
  ·rename_i sv0 hs;split at h
   ·rename_i sv1 hr;rw[ai]at h;by_cases e:t=s
    ·subst e;rw[D4 Y]at h;obtain rfl:=D3 h;exact⟨sv0,hs,hr⟩
    ·rw[D2 e]at h;exact fT V ids ss s sv h
   ·exact fT V ids ss s sv h
  ·exact fT V ids ss s sv h
theorem Rel.canon {keep os:List Nat}(hd:dup (gV E.f os)=false)(a:Act)(w:World)(h:Rel K E a w):Rel K (kF E keep os) a w:=by
 obtain⟨φ,hφ⟩:=h;generalize hids:gV E.f os=ids at hd;have hlen:ids.length=os.length:=by
  rw[<-hids];clear hids hd hφ
  induction os with
  |nil=>rfl
  |cons s os ih=>simp[gV,ih]
 have hown: ∀k c,(kF E keep os).f.own k=some c->∃o,ids[k]? =some o/\E.f.own o=some c:=by
  intro k c hk
  change (lk (jM E.f 0 (gV E.f os)) k).join=some c at hk
  rw[hids,o3 E.f ids 0 k,D4 (Dz _),Nat.sub_zero]at hk;exact GQ.1 hk
 let φ':Nat->Value:=λk=>φ (ids.getD k 0);have hφ': ∀k o,ids[k]? =some o->φ' k=φ o:=λk o hk=>(by simp[φ',List.getD,hk]);have hZ: ∀f b,Zf K E.f φ f b->Zf K (kF E keep os).f φ' f b:=by
  intro f b hb;refine⟨⟨hb.1.1,λk c hk hv=> ?_⟩,hb.2⟩;obtain⟨o,ho,hc⟩:=hown k c hk;rw[hφ' k o ho]at hv;exact hb.1.2 o c hc hv
 have hlt: ∀k (o:Nat),ids[k]? =some o->k<os.length:=λk o hk=>(by rw[<-hlen];exact(D5.1 hk).1);refine⟨φ',hφ.df,hφ.sz,hφ.old,hφ.kept,?_,?_,?_,?_,?_,?_⟩
 ·intro k c hk;obtain⟨o,ho,hc⟩:=hown k c hk;rw[hφ' k o ho];exact(hφ.own o c hc).mono (λ_ _=>rfl) λf b hb _=>⟨hZ f b hb,rfl⟩
 ·intro k c g hk hv;obtain⟨o,ho,hc⟩:=hown k c hk;rw[hφ' k o ho]at hv;exact hφ.mine o c g hc hv
 ·intro k c hk;obtain⟨o,ho,hc⟩:=hown k c hk;exact hlt k o ho
 ·intro k k' c c' g hk hk' hv hv';obtain⟨o,ho,hc⟩:=hown k c hk;obtain⟨o',ho',hc'⟩:=hown k' c' hk';rw[hφ' k o ho]at hv;rw[hφ' k' o' ho']at hv';obtain rfl:=hφ.dis o o' c c' g hc hc' hv hv';exact fz ids hd k k' o ho ho'
 ·intro s sv hs
  change lk (fA E.f (gV E.f os) keep) s=some sv at hs
  rw[hids]at hs;obtain⟨sv0,h0,hr⟩:=fT E.f ids keep s sv hs;obtain⟨v,hv,hrel⟩:=hφ.slot s sv0 h0;refine⟨v,hv,?_⟩;cases sv0 with
  |val fr p=>simp only[dN,D6]at hr;subst hr;exact Rep.mono (λb hb _=>⟨hZ fr b hb,rfl⟩) hrel
  |nilsl=>simp only[dN,D6]at hr;subst hr;exact hrel
  |ref o=>
   simp only[dN]at hr;split at hr
   ·rename_i k hk;obtain rfl:=D3 hr;simp only[aU,ay]at hrel⊢;rw[hφ' k o (d6 ids o k hk)];exact hrel
   ·cases hr
  |optr o i off st=>
   simp only[dN]at hr;split at hr
   ·rename_i k hk;obtain rfl:=D3 hr;simp only[aU,ay]at hrel⊢;rw[hφ' k o (d6 ids o k hk)];exact hrel
   ·cases hr
  |fptr fr cs=>
   simp only[dN,D6]at hr;subst hr;obtain⟨b,o,xs,e,hz,hb,hl,h1,hc⟩:=hrel;exact⟨b,o,xs,e,hZ fr b hz,hb,Rep.monoL (λb hb _=>⟨hZ fr b hb,rfl⟩) hl,h1,hc⟩
  |fix u p=>simp only[dN,D6]at hr;subst hr;exact⟨hrel.1,Rep.mono (λb hb _=>⟨hZ false b hb,rfl⟩) hrel.2⟩
  |fref f o=>
   simp only[dN]at hr;split at hr
   ·rename_i k hk;obtain rfl:=D3 hr;simp only[aU,ay]at hrel⊢;rw[hφ' k o (d6 ids o k hk)];exact hrel
   ·cases hr
  |eq u o=>
   simp only[dN]at hr;split at hr
   ·rename_i k hk;obtain rfl:=D3 hr;simp only[aU,ay]at hrel⊢;rw[hφ' k o (d6 ids o k hk)];exact hrel
   ·cases hr
  |tupB ag l=>simp[dN]at hr
 ·intro s sv hs
  change lk (fA E.f (gV E.f os) keep) s=some sv at hs
  rw[hids]at hs;obtain⟨sv0,h0,hr⟩:=fT E.f ids keep s sv hs;cases sv0 with
  |val fr p=>simp only[dN,D6]at hr;subst hr;trivial
  |nilsl=>simp only[dN,D6]at hr;subst hr;trivial
  |ref o=>
   simp only[dN]at hr;split at hr
   ·rename_i k hk;obtain rfl:=D3 hr;exact hlt k o (d6 ids o k hk)
   ·cases hr
  |optr o i off st=>
   simp only[dN]at hr;split at hr
   ·rename_i k hk;obtain rfl:=D3 hr;exact hlt k o (d6 ids o k hk)
   ·cases hr
  |fptr fr cs=>simp only[dN,D6]at hr;subst hr;trivial
  |fix v p=>simp only[dN,D6]at hr;subst hr;trivial
  |fref f o=>
   simp only[dN]at hr;split at hr
   ·rename_i k hk;obtain rfl:=D3 hr;exact hlt k o (d6 ids o k hk)
   ·cases hr
  |eq u o=>
   simp only[dN]at hr;split at hr
   ·rename_i k hk;obtain rfl:=D3 hr;exact hlt k o (d6 ids o k hk)
   ·cases hr
  |tupB ag l=>simp[dN]at hr
theorem T.canon {keep os:List Nat}(hd:dup (gV E.f os)=false)(k:T K c (kF E keep os) Q):T K c E Q:= .sub (Rel.canon hd) k
end
def PV.flat:PV->Bool
 | .bool _| .int _ _| .str _| .nilp| .nilf| .raw _=>true
 |_=>false
theorem Rep.flat {w:World}{Z Z':Nat->Prop}{v:Value}{p:PV}(h:Rep w Z v p)(hf:p.flat=true):Rep w Z' v p:=by
 cases h<;>first|exact .bool _|exact .int _ _|exact .str _|exact .nilp|exact .nilf|(refine .raw _ ?_;assumption)|(simp[PV.flat]at hf)
inductive Ret (P:Program)(E:EnvF)(al:Bool):List ResultVar->List RV->List Nat->Prop
 |nil:Ret P E al [] [] []
 |val {t:Tmp} {sv:SV} {fr:Bool} {p:PV} {rs:List ResultVar} {vs:List RV} {os:List Nat}:E.slot t=some sv->sv.ff=some (fr,p)->(al=false->fr=true)->Ret P E al rs vs os->Ret P E al (.tmp t::rs) (.val p::vs) os
 |own {t:Tmp} {o:Nat} {e:TypeId} {sz:Nat} {fr:Bool} {rows:List (List PV)} {rs:List ResultVar} {vs:List RV} {os:List Nat}:E.slot t=some (.ref o)->E.own o=some (.sl e sz fr rows)->(al=false->fr=true∨∀r∈rows,∀p∈r,p.flat=true)->o∉os->Ret P E al rs vs os->
   Ret P E al (.tmp t::rs) (.own e sz rows::vs) (o::os)
 |cell {t:Tmp} {ty:TypeId} {q:Nat} {fr:Bool} {row:List PV} {p:PV} {rs:List ResultVar} {vs:List RV} {os:List Nat} (_:E.slot t=some (.optr q 0 0 0)) (_:E.own q=some (.box fr row)) (_:iq P ty row=some p) (_:al=false->fr=true) (_:Ret P E al rs vs os):Ret P E al (.cell t ty::rs) (.val p::vs) os
 |ownN {t:Tmp} {e:TypeId} {sz:Nat} {rs:List ResultVar} {vs:List RV} {os:List Nat}:E.slot t=some .nilsl->Ret P E al rs vs os->Ret P E al (.tmp t::rs) (.own e sz []::vs) os
def iv:Nat->List PV->List (Nat×SV)
 |_,[]=>[]
 |k,p::ps=>(k,.val false p)::iv (k+1) ps
theorem lx: ∀(ps:List PV) (k s:Nat) (sv:SV),lk (iv k ps) s=some sv->∃j p,s=k+j/\ps[j]? =some p/\sv= .val false p
 | [],k,s,sv,h=>by simp[iv,lk]at h
 |p::ps,k,s,sv,h=>by
  simp only[iv,ai]at h;by_cases e:k=s
  ·rw[D4 e]at h;obtain rfl:=D3 h;exact⟨0,p,by omega,by simp,rfl⟩
  ·rw[D2 e]at h;obtain⟨j,q,h1,h2,h3⟩:=lx ps (k+1) s sv h;exact⟨j+1,q,by omega,by simpa using h2,h3⟩
def bZ (tmps:Array Value):ResultVar->Sem Value
 | .tmp t=>pure (tmps.getD t undef)
 | .cell a t=>do loadVar t (<-asAddr (tmps.getD a undef))
theorem yr {K:Ctx}{E:EnvF}{U:Nat->Prop}{φ:Nat->Value}{a:Act}{w:World}(h:RelW K E U φ a w)(hM: ∀b,¬K.M b){al:Bool}{rs:List ResultVar}{vs:List RV}{os:List Nat}(hr:Ret K.P E al rs vs os):
  ∃ws:List Value,(rs.mapM (bZ a.tmps)).run K.P w= .ok ws w/\
   L2 (λv r=>match r with
    | .val p=> ∃fr,(al=false->fr=true)/\Rep w (Zf K E φ fr) v p
    | .own e sz rows=> ∃fr,(al=false->fr=true∨∀r∈rows,∀p∈r,p.flat=true)/\ar w (Zf K E φ) v (.sl e sz fr rows)) ws vs/\
   (∀v g,v∈RV.vals vs ws->VB v g->K.w0.heap.size<=g/\∃o c,o∈os/\E.own o=some c/\VB (φ o) g)/\
   (∀(i j:Nat) (v v':Value) (g:Nat),(RV.vals vs ws)[i]? =some v->(RV.vals vs ws)[j]? =some v'->VB v g->VB v' g->i=j):=by
 induction hr with
 |nil=>exact⟨[],rfl,.nil,by simp[RV.vals],by simp[RV.vals]⟩
 | @val t sv fr p rs vs os hs hf hfr _ ih=>
  obtain⟨ws,h1,h2,h3,h4⟩:=ih;have hx:E.get (.tmp t)=some sv:=hs;have hrep:=bC h hx hf;exact⟨a.eval (.tmp t)::ws,by simp only[Fg,bZ,DK,Dr,DA];rw[h1];rfl,.cons ⟨fr,hfr,hrep⟩ h2,h3,h4⟩
 | @own t o e sz fr rows rs vs os hs ho hfr hno _ ih=>
  obtain⟨ws,h1,h2,h3,h4⟩:=ih;have hx:E.get (.tmp t)=some (.ref o):=hs;obtain⟨hv,_⟩:=ae h hx;simp only[aU,ay]at hv;have hown:=h.own o _ ho;have hmine: ∀g,VB (φ o) g->K.w0.heap.size<=g:=λg hg=>(h.mine o _ g ho hg).resolve_right (hM g);refine⟨a.eval (.tmp t)::ws,by simp only[Fg,bZ,DK,Dr,DA];rw[h1];rfl,.cons ⟨fr,hfr,by rw[hv];exact hown⟩ h2,?_,?_⟩
  ·intro v g hv2 hg;simp only[RV.vals,DO]at hv2;rcases hv2 with rfl|hv2
   ·rw[hv]at hg;exact⟨hmine g hg,o,_,.head _,ho,hg⟩
   ·obtain⟨h5,o',c',h6,h7⟩:=h3 v g hv2 hg;exact⟨h5,o',c',.tail _ h6,h7⟩
  ·intro i j v v' g hi hj hg hg';simp only[RV.vals]at hi hj;have cross: ∀(k:Nat) u,(RV.vals vs ws)[k]? =some u->VB u g->VB (φ o) g->False:=by
    intro k u hk hu hg2;obtain⟨_,o',c',h6,h7,h8⟩:=h3 u g (D7 hk) hu;exact hno (h.dis o' o c' _ g h7 ho h8 hg2▸h6)
   cases i with
   |zero=>
    cases j with
    |zero=>rfl
    |succ j=>
     simp only[FE,D6]at hi;simp only[El]at hj;subst hi;rw[hv]at hg;exact(cross j v' hj hg' hg).elim
   |succ i=>
    cases j with
    |zero=>
     simp only[FE,D6]at hj;simp only[El]at hi;subst hj;rw[hv]at hg';exact(cross i v hi hg hg').elim
    |succ j=>
     simp only[El]at hi hj;rw[h4 i j v v' g hi hj hg hg']
 | @cell t ty q fr row p rs vs os hs hq hp hfr _ ih=>
  obtain⟨ws,h1,h2,h3,h4⟩:=ih;have hx:E.get (.tmp t)=some (.optr q 0 0 0):=hs;obtain⟨u,hu,hrep⟩:=fS (j0 (fr:=fr) (cells:=row) h hx (by simp[EnvF.cellsAt,hq,Own.at_])) hp;refine⟨u::ws,?_,.cons ⟨fr,hfr,hrep⟩ h2,h3,h4⟩;obtain⟨hv,_⟩:=ae h hx;obtain⟨g,hg,hv⟩:=hv;have hv':a.tmps.getD t undef= .pointer (some ⟨g,0,none⟩):=by
   have:a.eval (.tmp t)= .pointer (some ⟨g,0,none⟩):=(by simpa using hv);exact this
  have hu':(loadVar ty ⟨g,0,none⟩).run K.P w= .ok u w:=by
   have e:a.eval (.tmp t)= .pointer (some ⟨g,0,none⟩):=hv';rw[e]at hu;simpa[Instr.loadAt,Instr.sureAddr]using hu
  simp only[Fg,bZ,hv',asAddr,DK,Dr,DA,hu',h1]
 | @ownN t e sz rs vs os hs _ ih=>
  obtain⟨ws,h1,h2,h3,h4⟩:=ih;have hx:E.get (.tmp t)=some .nilsl:=hs;obtain⟨hv,_⟩:=ae h hx;simp only[aU,ay]at hv;refine⟨a.eval (.tmp t)::ws,by simp only[Fg,bZ,DK,Dr,DA];rw[h1];rfl,.cons ⟨true,λ_=> .inl Y,by rw[hv];exact⟨[],World.ownsRow_nil w 0 e sz,.nil,by simp,by simp⟩⟩ h2,?_,?_⟩
  ·intro v g hv2 hg;simp only[RV.vals,DO]at hv2;rcases hv2 with rfl|hv2;·rw[hv]at hg;simp[VB,ax]at hg
   ·exact h3 v g hv2 hg
  ·intro i j v v' g hi hj hg hg';simp only[RV.vals]at hi hj;cases i with
   |zero=>
    simp only[FE,D6]at hi;subst hi;rw[hv]at hg;simp[VB,ax]at hg
   |succ i=>
    cases j with
    |zero=>
     simp only[FE,D6]at hj;subst hj;rw[hv]at hg';simp[VB,ax]at hg'
    |succ j=>
     simp only[El]at hi hj;rw[h4 i j v v' g hi hj hg hg']
def Fin (P:Program)(fn:Func)(al:Bool)(res:List RV):Exit->St->Prop
 | .normal,E| .ret,E=> ∃os,Ret P E.f al fn.results.toList res os
 |_,_=>False
theorem Spec.body {P:Program} {f:FuncId} {fn:Func} {c:Code} {al:Bool} {args:List PV} {res:List RV} (hf:P.funcs[f]? =some fn) (hb:fn.body=some c) (hn:(fn.name== "runtime.NumGoroutine")=false) (hl:Nat.ble args.length fn.ntmps=true)
  (h: ∀w0 Z0,T (Ctx.of P w0 Z0 (λ_=>False) fn.ntmps) c ⟨iv 0 args,[],0⟩ (Fin P fn al res)):Spec P f al args res:=by
 refine⟨⟨fn,hf,by rw[hb];rfl,hn⟩,λw Z vs hvs=> ?_⟩;have hle:=Dy hl;have hvl:=hvs.length;refine calls_of_wp hf hb ?_;have hrel:Rel (Ctx.of P w Z (λ_=>False) fn.ntmps) ⟨iv 0 args,[],0⟩ { tmps:=vs.toArray++Array.replicate (fn.ntmps-vs.toArray.size) undef,defers:=[] } w:=by
  refine⟨λ_=>undef,rfl,?_,(λs v hs=>DU hs (EO s)),⟨rfl,rfl,rfl,DL _,λ_ _ _=>rfl⟩,?_,?_,?_,?_,?_,?_⟩;·simp[Ctx.of];omega
  ·intro o c ho;simp[St.f,lk]at ho
  ·intro o c g ho;simp[St.f,lk]at ho
  ·intro o c ho;simp[St.f,lk]at ho
  ·intro o o' c c' g ho;simp[St.f,lk]at ho
  ·intro s sv hs;obtain⟨j,p,rfl,hp,rfl⟩:=lx args 0 s sv hs;obtain⟨v,hv,hr⟩:=hvs.get hp;have hj:j<vs.length:=(D5.1 hv).1;refine⟨v,?_,?_⟩
   ·rw[Ew,E5,FJ (by simpa using hj)];simp[hv]
   ·refine Rep.mono (Z:=Z) (λb hb _=>⟨⟨⟨.inr hb,λo c ho=> ?_⟩,λe=>by cases e⟩,rfl⟩) hr;simp[St.f,lk]at ho
  ·intro s sv hs;obtain⟨j,p,rfl,hp,rfl⟩:=lx args 0 s sv hs;trivial
 refine wp_mono ((h w Z).out _ w hrel) λe a w' ⟨hfe,E,hq,φ,hφ⟩=> ?_;have key:(∃os,Ret P E.f al fn.results.toList res os)->a.defers=[]/\∃v,(results fn a.tmps).run P w'= .ok v w'/\∃rs:List Value,Ending.returned v= .returned (l8 rs)/\Below w.heap.size w w'/\RetRel w w' (λb=>al=true/\Z b) rs res:=by
  rintro⟨os,hret⟩;obtain⟨ws,h1,h2,h3,h4⟩:=yr hφ (λ_ hm=>hm) hret;have hk:=hφ.kept;refine⟨hφ.df,l8 ws,?_,ws,rfl,⟨hk.os,hk.tape,hk.output,hk.size,λb hb=>hk.block b hb (λhm=>hm)⟩,?_,λv g hv hg=>(h3 v g hv hg).1,h4⟩
  ·have e:results fn a.tmps=(do let vs<-fn.results.mapM (bZ a.tmps);pure (if h:vs.size=1 then vs[0]else .tuple vs)):=by
    unfold results;congr
   have h1':(fn.results.toList.mapM (bZ a.tmps)).run P w'= .ok ws w':=h1;rw[e,FO];simp only[DK,Gw,h1',DA];cases ws with
   |nil=>rfl
   |cons v ws=>cases ws with
    |nil=>rfl
    |cons v' ws=>rfl
  ·have hz: ∀f b,(al=false->f=true)->Zf (Ctx.of P w Z (λ_=>False) fn.ntmps) E.f φ f b->((al=true/\Z b)∨w.heap.size<=b)/\∀v,v∈RV.vals res ws->¬VB v b:=by
    intro f b hfr hb;refine⟨?_,λv hv e=> ?_⟩
    ·cases al with
     |true=>exact hb.1.1.elim (λh=> .inr h) (λh=> .inl ⟨rfl,h⟩)
     |false=>exact .inr (hb.2 (hfr Y))
    ·obtain⟨_,o,c,_,ho,hg⟩:=h3 v b hv e;exact hb.1.2 o c ho hg
   refine h2.imp λv r hv=> ?_;cases r with
   |val p=>
    obtain⟨fr,hfr,hrep⟩:=hv;exact Rep.mono (λb hb _=>⟨hz fr b hfr hb,rfl⟩) hrep
   |own e sz rows=>
    obtain⟨fr,hfr,xs,ho,hl2,h5,h6⟩:=hv;refine⟨xs,ho,?_,h5,h6⟩;by_cases hfl:al=false->fr=true;·exact Rep.monoL (λb hb _=>⟨hz fr b hfl hb,rfl⟩) hl2
    ·have hfl2: ∀r∈rows,∀p∈r,p.flat=true:=by
      obtain⟨h7,h8⟩:=Classical.not_imp.1 hfl;exact(hfr h7).resolve_left h8
     have hfl3: ∀p∈rows.flatten,p.flat=true:=by
      intro p hp;obtain⟨r,hr,hpr⟩:=Ft.1 hp;exact hfl2 r hr p hpr
     clear ho h5 h6 hfl hfl2 hfr;generalize rows.flatten=ps at hl2 hfl3
     induction hl2 with
     |nil=>exact .nil
     |cons h9 _ ih=>exact .cons (h9.flat (hfl3 _ (.head _))) (ih λp hp=>hfl3 p (.tail _ hp))
 cases e with
 |normal=>exact key hq
 |ret=>exact key hq
 |exit id=>exact hq.elim
 |goto l=>exact hq.elim
 |panic ch=>simp[fine]at hfe
 |outgrown=>simp[fine]at hfe
theorem T.ind {K:Ctx}{c:Code}{Q:Exit->St->Prop}{σ:Type}(Es:σ->St)(Inv:σ->Prop)(μ:σ->Nat)(x0:σ)(h0:Inv x0)(hg: ∀l E,¬Q (.goto l) E)
  (h: ∀x,Inv x->(∀y,Inv y->μ y<μ x->T K (.loop c) (Es y) Q)->T K c (Es x) (lp K c Q)):T K (.loop c) (Es x0) Q:=by
 have key: ∀n x,μ x=n->Inv x->T K (.loop c) (Es x) Q:=by
  intro n
  induction n using Nat.strongRecOn with
  |_ n ih=>
   intro x hx hi;exact .loop hg (h x hi λy hy hlt=>ih (μ y) (hx▸hlt) y Y hy)
 exact key _ x0 Y h0
theorem T.list {K:Ctx}{c:Code}{Q:Exit->St->Prop}{α:Type}(l:List α)(Es:Nat->List α->List α->St)(hg: ∀l E,¬Q (.goto l) E)
  (step: ∀n pre x post,l=pre++x::post->n=pre.length->T K (.loop c) (Es (n+1) (pre++[x]) post) Q->T K c (Es n pre (x::post)) (lp K c Q))
  (fin:T K c (Es l.length l []) (lp K c Q)):T K (.loop c) (Es 0 [] l) Q:=by
 have key: ∀post pre n,l=pre++post->n=pre.length->T K (.loop c) (Es n pre post) Q:=by
  intro post
  induction post with
  |nil=>
   intro pre n h hn;rw[Ex]at h;subst h hn;exact .loop hg fin
  |cons x post ih=>
   intro pre n h hn;exact .loop hg (step n pre x post h hn (ih (pre++[x]) (n+1) (by simp[h]) (by simp[hn])))
 exact key l [] 0 Y Y
def cI (n:Int):List PV:=[.int .i64 n]
def ao (l:List Int):PV:= .sl (l.map cI)
def cR (r:Int×Int):List PV:=[.int .i64 r.1,.int .i64 r.2]
def dm (d:List (Int×Int)):PV:= .sl (d.map cR)
def cD (d:List (Int×Int)):List PV:=[dm d]
def aJ (d:List (List (Int×Int))):PV:= .sl (d.map cD)
def cL (l:List Int):List PV:=[ao l]
def bT (l:List (List Int)):PV:= .sl (l.map cL)
structure Con where
 kind:Int
 vars:List Int
 coefs:List Int
 op:Int
 rhs:Int
 rows:List (List Int)
 b:Int
def cC (c:Con):List PV:=[.int .i64 c.kind,ao c.vars,ao c.coefs,.int .i64 c.op,.int .i64 c.rhs,bT c.rows,.int .i64 c.b]
theorem aS {α:Type}{enc:α->List PV}{l pre post:List α}{x:α}{n:Nat}(hl:l=pre++x::post)(hn:n=pre.length):(l.map enc)[(n:Int).toNat]? =some (enc x):=by
 subst hl hn;simp
theorem Ret.v {P:Program}{E:EnvF}{al:Bool}{t:Tmp}{sv:SV}{fr:Bool}{p p':PV}{rs:List ResultVar}{vs:List RV}{os:List Nat}(hs:E.slot t=some sv)(hf:sv.ff=some (fr,p))(he:p=p')(hfr:al=false->fr=true)(h:Ret P E al rs vs os):
  Ret P E al (.tmp t::rs) (.val p'::vs) os:=he▸.val hs hf hfr h
theorem Ret.o {P:Program}{E:EnvF}{al:Bool}{t:Tmp}{o:Nat}{e:TypeId}{sz:Nat}{fr:Bool}{rows rows':List (List PV)}{rs:List ResultVar}{vs:List RV}{os:List Nat}(hs:E.slot t=some (.ref o))(ho:E.own o=some (.sl e sz fr rows))(he:rows=rows')
  (hfr:al=false->fr=true∨∀r∈rows,∀p∈r,p.flat=true) (hn:o∉os) (h:Ret P E al rs vs os):Ret P E al (.tmp t::rs) (.own e sz rows'::vs) (o::os):=he▸.own hs ho hfr hn h
theorem Ret.c {P:Program}{E:EnvF}{al:Bool}{t:Tmp}{ty:TypeId}{q:Nat}{fr:Bool}{row:List PV}{p p':PV}{rs:List ResultVar}{vs:List RV}{os:List Nat}(hs:E.slot t=some (.optr q 0 0 0))(hq:E.own q=some (.box fr row))(hp:iq P ty row=some p)(he:p=p')(hfr:al=false->fr=true)(h:Ret P E al rs vs os):
  Ret P E al (.cell t ty::rs) (.val p'::vs) os:=he▸.cell hs hq hp hfr h
theorem wO {l:List Int}: ∀r∈l.map cI,∀p∈r,p.flat=true:=by
 intro r hr p hp;obtain⟨x,_,rfl⟩:=DF.1 hr;simp[cI]at hp;subst hp;rfl
theorem sd {l:List (Int×Int)}: ∀r∈l.map cR,∀p∈r,p.flat=true:=by
 intro r hr p hp;obtain⟨x,_,rfl⟩:=DF.1 hr;simp[cR]at hp;rcases hp with rfl|rfl<;>rfl
theorem uv {l:List Int}: ∀r∈l.map cI,r.length=1:=by
 intro r hr;obtain⟨x,_,rfl⟩:=DF.1 hr;rfl
theorem Az {l:List (Int×Int)}: ∀r∈l.map cR,r.length=2:=by
 intro r hr;obtain⟨x,_,rfl⟩:=DF.1 hr;rfl
theorem af {n:Int}(h1: -9223372036854775808<=n)(h2:n<=9223372036854775807):IntKind.i64.wrap n=n:=by
 simp only[IntKind.wrap,IntKind.bits,IntKind.signed,EU,DJ,DN,ge_iff_le];split<;>omega
def f5 (V V':EnvF)(o:Oper):Prop:= ∀x,x∈o.op.operands->V'.get x=V.get x/\∀sv,V.get x=some sv->sv.inU (λq=>V'.own q=V.own q)
section
variable {V V':EnvF}{P:Program}
theorem mZ: ∀(l:List (Nat×Operand)),(∀x∈l,V'.get x.2=V.get x.2)->fq V' l=fq V l
 | [],_=>rfl
 |(i,x)::l,h=>by
  simp only[fq];rw[h (i,x) (.head _),mZ l λy hy=>h y (.tail _ hy)]
theorem d9: ∀(l:List Operand),(∀x∈l,V'.get x=V.get x)->du V' l=du V l
 | [],_=>rfl
 |x::l,h=>by
  simp only[du];rw[h x (.head _),d9 l λy hy=>h y (.tail _ hy)]
theorem kq (sz:Nat): ∀(l:List (Nat×Operand)) (k:Nat),(∀x∈l,V'.get x.2=V.get x.2)->c5 V' sz k l=c5 V sz k l
 | [],_,_=>rfl
 |(i,x)::l,k,h=>by
  simp only[c5];rw[h (i,x) (.head _),kq sz l (k+1) λy hy=>h y (.tail _ hy)]
theorem tG {sv:SV}(h:sv.inU (λq=>V'.own q=V.own q)):V'.pv sv=V.pv sv:=by
 cases sv<;>simp only[EnvF.pv];rename_i o;have:V'.own o=V.own o:=h;rw[this]
theorem kH (al:Bool): ∀(l:List Operand),(∀x∈l,V'.get x=V.get x/\∀sv,V.get x=some sv->sv.inU (λq=>V'.own q=V.own q))->bW V' al l=bW V al l
 | [],_=>rfl
 |x::l,h=>by
  simp only[bW];have:pH V' al x=pH V al x:=by
   obtain⟨h1,h2⟩:=h x (.head _);unfold pH;rw[h1];cases hg:V.get x with
   |none=>rfl
   |some sv=>simp only[];rw[tG (h2 sv hg)]
  rw[this,kH al l λy hy=>h y (.tail _ hy)]
theorem u6 {sv:SV}(h:sv.inU (λq=>V'.own q=V.own q)):V'.cellsAt sv=V.cellsAt sv:=by
 cases sv with
 |optr o i off st=>
  have:V'.own o=V.own o:=h;simp only[EnvF.cellsAt];rw[this]
 |val fr p=>cases p<;>rfl
 |fix u p=>cases p<;>rfl
 |_=>rfl
theorem u9 {t:TypeId}{l:List (Nat×Operand)}(h: ∀x∈l,V'.get x.2=V.get x.2):jN P V' t l=jN P V t l:=by
 unfold jN;rw[mZ l h]
theorem tC {sv:SV}(h:sv.inU (λq=>V'.own q=V.own q)):gL V' sv=gL V sv:=by
 cases sv with
 |ref o=>
  have:V'.own o=V.own o:=h;simp only[gL];rw[this]
 |_=>rfl
theorem rQ {sv:SV}(h:sv.in1 (λq=>V'.own q=V.own q)):gL V' sv=gL V sv:=by
 cases sv with
 |ref o=>
  have:V'.own o=V.own o:=h;simp only[gL];rw[this]
 |_=>rfl
theorem ie: ∀{l:List SV},(∀s∈l,s.in1 (λq=>V'.own q=V.own q))->l.all (gL V')=l.all (gL V)
 | [],_=>rfl
 |s::l,h=>by rw[Fb,Fb,rQ (h s (.head _)),ie λt ht=>h t (.tail _ ht)]
theorem fw {pl:List (Nat×Nat)}: ∀(l:List (Nat×Operand)) (cs:List SV),(∀x∈l,V'.get x.2=V.get x.2/\∀sv,V.get x.2=some sv->sv.inU (λq=>V'.own q=V.own q))->e8 V' pl cs l=e8 V pl cs l
 | [],cs,_=>rfl
 |(i,x)::l,cs,h=>by
  obtain⟨h1,h2⟩:=h (i,x) (.head _);simp only[e8];rw[h1];cases hg:V.get x with
  |none=>rfl
  |some sv=>
   cases hp:pl[i]? with
   |none=>rfl
   |some p=>
    obtain⟨off,sz⟩:=p
    match sz with
    |1=>
     simp only[];rw[tC (h2 sv hg),fw l _ λy hy=>h y (.tail _ hy)]
    |0=>
     have ih:=λcs=>fw (pl:=pl) l cs λy hy=>h y (.tail _ hy);cases sv with
     |tupB ag l2=>cases ag with
      |false=>rfl
      |true=>
       have h3: ∀s∈l2,s.in1 (λq=>V'.own q=V.own q):=h2 _ hg;simp only[];rw[ie h3,ih]
     |_=>rfl
    |n+2=>
     have ih:=λcs=>fw (pl:=pl) l cs λy hy=>h y (.tail _ hy);cases sv with
     |tupB ag l2=>cases ag with
      |false=>rfl
      |true=>
       have h3: ∀s∈l2,s.in1 (λq=>V'.own q=V.own q):=h2 _ hg;simp only[];rw[ie h3,ih]
     |_=>rfl
theorem pT {t:TypeId}{l:List (Nat×Operand)}(h: ∀x∈l,V'.get x.2=V.get x.2/\∀sv,V.get x.2=some sv->sv.inU (λq=>V'.own q=V.own q)):fB P V' t l=fB P V t l:=by
 unfold fB;split
 ·split
  ·split;·exact fw l _ h
   ·rfl
  ·rfl
 ·rfl
theorem uT {o:Oper}(h:f5 V V' o):ev P V' o=ev P V o:=by
 unfold f5 at h;unfold ev;split;·rename_i x ho;rw[ho]at h;exact(h x (by simp[Op.operands])).1
 ·rename_i x ho;rw[ho]at h;exact(h x (by simp[Op.operands])).1
 ·rename_i c a b ho;rw[ho]at h;rw[(h c (by simp[Op.operands])).1,(h a (by simp[Op.operands])).1,(h b (by simp[Op.operands])).1]
 ·rename_i op t x y yt ho;rw[ho]at h;rw[(h x (by simp[Op.operands])).1,(h y (by simp[Op.operands])).1]
 ·rename_i op t x ho;rw[ho]at h;rw[(h x (by simp[Op.operands])).1]
 ·rename_i t x ho;rw[ho]at h;obtain⟨h1,h2⟩:=h x (by simp[Op.operands]);rw[h1];cases hg:V.get x with
  |none=>rfl
  |some sv=>simp only[];rw[u6 (h2 sv hg)]
 ·rename_i s x f ho;rw[ho]at h;rw[(h x (by simp[Op.operands])).1]
 ·rename_i s x f ho;rw[ho]at h;rw[(h x (by simp[Op.operands])).1]
 ·rename_i x i ho;rw[ho]at h;rw[(h x (by simp[Op.operands])).1]
 ·rename_i t parts ho;rw[ho]at h;rw[u9 λx hx=>(h x.2 (by simp only[Op.operands,GZ,DF];exact⟨x,hx,rfl⟩)).1]
 ·rename_i fn first caps ho;rw[ho]at h
  rw[d9 first.toList λx hx=>(h x (by simp only[Op.operands,FQ];exact .inl (by simpa using hx))).1,
   d9 caps.toList λx hx=>(h x (by simp only[Op.operands,FQ];exact .inr (by simpa using hx))).1]
 ·rename_i src dst x ho;rw[ho]at h;rw[(h x (by simp[Op.operands])).1]
 ·rename_i args tys ho;rw[ho]at h;split
  ·rename_i x t ha ht;obtain⟨h1,h2⟩:=h x (by simp only[Op.operands,Call.operands,FQ];exact .inr (by rw[<-Fp,ha];simp));rw[h1];cases hg:V.get x with
   |none=>rfl
   |some sv=>simp only[];rw[tG (h2 sv hg)]
  ·rfl
 ·rename_i args tys ho;rw[ho]at h;split
  ·rename_i x y ha;rw[(h x (by simp only[Op.operands,Call.operands,FQ];exact .inr (by rw[<-Fp,ha];simp))).1,
    (h y (by simp only[Op.operands,Call.operands,FQ];exact .inr (by rw[<-Fp,ha];simp))).1]
  ·rfl
 ·rename_i args tys ho;rw[ho]at h;split
  ·rename_i x y ha;rw[(h x (by simp only[Op.operands,Call.operands,FQ];exact .inr (by rw[<-Fp,ha];simp))).1,
    (h y (by simp only[Op.operands,Call.operands,FQ];exact .inr (by rw[<-Fp,ha];simp))).1]
  ·rfl
 ·rename_i x ho;rw[ho]at h;rw[(h x (by simp[Op.operands])).1]
 ·rfl
theorem Does.congr {K:Ctx}{n:Nat}{o:Oper}{sv:SV}{adds:List Own}(h:f5 V V' o)(hd:Does K V n o sv adds):Does K V' n o sv adds:=by
 have hag:=h;unfold f5 at h;cases hd with
 |ev he=>exact .ev (by rw[uT hag];exact he)
 |idxf ho hx hr hi hu hinf h0 hrow hl=>
  rw[ho]at h;exact .idxf ho ((h _ (by simp[Op.operands])).1.trans hx) hr ((h _ (by simp[Op.operands])).1.trans hi) hu hinf h0 hrow hl
 |idxo ho hx hq hi hu hinf h0 hm hs=>
  rw[ho]at h;obtain⟨h1,h2⟩:=h _ (by simp[Op.operands];exact .inl Y);have h3:V'.own _=V.own _:=h2 _ hx;exact .idxo ho (h1.trans hx) (h3.trans hq) ((h _ (by simp[Op.operands])).1.trans hi) hu hinf h0 hm hs
 | @slf t x lo hi sx fr fl fh rows e inf l hh kl kh ho hx hr hu hinf hlo hhi h0 h1 h2 h3=>
  rw[ho]at h;refine .slf (fl:=fl) (fh:=fh) (kl:=kl) (kh:=kh) ho ((h x (by simp[Op.operands])).1.trans hx) hr hu hinf ?_ ?_ h0 h1 h2 h3
  ·rcases hlo with hlo|⟨y,hy,hg⟩;·exact .inl hlo
   ·exact .inr ⟨y,hy,(h y (by simp[Op.operands,hy])).1.trans hg⟩
  ·rcases hhi with hhi|⟨y,hy,hg⟩;·exact .inl hhi
   ·exact .inr ⟨y,hy,(h y (by simp[Op.operands,hy])).1.trans hg⟩
 |buildR ho hb=>
  rw[ho]at h;exact .buildR ho ((pT λx hx=>h x.2 (by simp only[Op.operands,GZ,DF];exact⟨x,hx,rfl⟩)).trans hb)
 |box ho hx hp=>
  rw[ho]at h;exact .box ho ((h _ (by simp[Op.operands])).1.trans hx) hp
 |bsv ho hu hi hz hzs hr hl hm hm2=>
  rw[ho]at h;exact .bsv ho hu hi hz hzs (by rw[kq _ _ _ λx hx=>(h x.2 (by simp only[Op.operands,GZ,DF];exact⟨x,hx,rfl⟩)).1];exact hr) hl hm hm2
 |bso ho hu hi hz hzs hr hl hm hm2=>
  rw[ho]at h;exact .bso ho hu hi hz hzs (by rw[kq _ _ _ λx hx=>(h x.2 (by simp only[Op.operands,GZ,DF];exact⟨x,hx,rfl⟩)).1];exact hr) hl hm hm2
 |alloc ho hi hz hps=>exact .alloc ho hi hz hps
 |genO hin hl hrun=>exact .genO hin ((d9 _ λx hx=>(h x (hin x hx)).1).trans hl) hrun
 |gen hin hl hrun=>exact .gen hin ((d9 _ λx hx=>(h x (hin x hx)).1).trans hl) hrun
 |call ho hx ha hspec=>
  rw[ho]at h;exact .call ho ((h _ (by simp[Op.operands,Call.operands])).1.trans hx) (by rw[kH _ _ λx hx=>h x (by simp only[Op.operands,Call.operands,FQ];exact .inr (by simpa using hx))];exact ha) hspec
theorem Al {U:Nat->Prop}(fr:Bool)(p:PV):(mkv fr p).inU U:=by cases p<;>trivial
theorem dt {U:Nat->Prop}(hU: ∀s sv,V.slot s=some sv->sv.inU U){x:Operand}{sv:SV}(h:V.get x=some sv):sv.inU U:=by
 cases x with
 |tmp t=>exact hU t sv h
 |const v=>
  simp only[EnvF.get,cSV]at h;split at h;·obtain rfl:=D3 h;trivial
  ·obtain⟨p,_,rfl⟩:=DY.1 h;trivial
 |global g=>simp[EnvF.get]at h
 |func f=>simp only[EnvF.get,D6]at h;subst h;trivial
theorem C5 {U:Nat->Prop}(hU: ∀s sv,V.slot s=some sv->sv.inU U){o:Oper}{sv:SV}(he:ev P V o=some sv):sv.inU U:=by
 unfold ev at he;split at he;·exact dt hU he
 ·exact dt hU he
 ·split at he;·exact dt hU he
  ·exact dt hU he
  ·cases he
 ·split at he;·obtain⟨r,_,rfl⟩:=DY.1 he;trivial
  ·cases he
 ·split at he;·obtain⟨r,_,rfl⟩:=DY.1 he;trivial
  ·cases he
 ·split at he
  ·split at he;·obtain⟨r,_,rfl⟩:=DY.1 he;exact Al _ _
   ·cases he
  ·cases he
 ·split at he
  ·split at he
   ·split at he
    ·split at he;·obtain rfl:=D3 he;trivial
     ·cases he
    ·split at he;·obtain rfl:=D3 he;trivial
     ·cases he
    ·split at he;·obtain rfl:=D3 he;trivial
     ·cases he
    ·rename_i hg;obtain rfl:=D3 he;have:=dt hU hg;exact this
    ·cases he
   ·cases he
  ·cases he
 ·split at he
  ·split at he
   ·split at he
    ·split at he
     ·split at he;·obtain rfl:=D3 he;trivial
      ·cases he
     ·obtain⟨r,_,rfl⟩:=DY.1 he;exact Al _ _
    ·cases he
   ·cases he
  ·cases he
 ·split at he
  ·rename_i hg;have:=dt hU hg;have h1:=this sv (D7 he);cases sv with
   |tupB ag l=>exact h1.elim
   |_=>exact h1
  ·cases he
 ·obtain⟨r,_,rfl⟩:=DY.1 he;trivial
 ·split at he;·obtain rfl:=D3 he;trivial
  ·cases he
 ·split at he
  ·split at he;·obtain rfl:=D3 he;trivial
   ·cases he
  ·cases he
 ·split at he
  ·split at he
   ·split at he
    ·split at he;·obtain rfl:=D3 he;trivial
     ·cases he
    ·split at he;·obtain rfl:=D3 he;trivial
     ·cases he
    ·cases he
   ·cases he
  ·cases he
 ·split at he
  ·split at he;·obtain rfl:=D3 he;trivial
   ·cases he
  ·cases he
 ·split at he
  ·split at he;·obtain rfl:=D3 he;trivial
   ·cases he
  ·cases he
 ·split at he
  ·rename_i hx;obtain rfl:=D3 he;exact dt hU hx
  ·obtain rfl:=D3 he;trivial
  ·cases he
 ·cases he
end
theorem rK {U:Nat->Prop}(fr:Bool): ∀(rs:List RV) (n:Nat),(∀i,i<(RV.owns fr rs).length->U (n+i))->∀s∈RV.svs fr n rs,s.in1 U
 | [],n,_,s,hs=>by simp[RV.svs]at hs
 | .val p::rs,n,h,s,hs=>by
  simp only[RV.svs,DO]at hs;rcases hs with rfl|hs;·cases p<;>trivial
  ·exact rK fr rs n h s hs
 | .own e sz rows::rs,n,h,s,hs=>by
  simp only[RV.svs,DO]at hs;rcases hs with rfl|hs;·exact h 0 (by simp[RV.owns])
  ·exact rK fr rs (n+1) (λi hi=>by rw[En,FC 1 i];exact h (i+1) (by simpa[RV.owns]using hi)) s hs
theorem fillSV_in {V:EnvF}{U:Nat->Prop}(hU: ∀s sv,V.slot s=some sv->sv.inU U){pl:List (Nat×Nat)}: ∀(ps:List (Nat×Operand)) (cs l:List SV),e8 V pl cs ps=some l->(∀s∈cs,s.in1 U)->∀s∈l,s.in1 U
 | [],cs,l,hf,hi=>by
  simp only[e8,D6]at hf;subst hf;exact hi
 |(i,x)::ps,cs,l,hf,hi=>by
  simp only[e8]at hf;split at hf
  ·rename_i sv off hx hpl;split at hf
   ·rename_i hok hlt;have hin:=dt hU hx;refine fillSV_in hU ps _ l hf λs hs=> ?_;rcases DV hs with h5|rfl;·exact hi s h5
    ·cases s<;>first|exact hin|(simp[gL]at hok)
   ·cases hf
  ·rename_i l2 off n _ hx hpl;split at hf
   ·have hin: ∀s∈l2,s.in1 U:=dt hU hx;exact fillSV_in hU ps _ l hf (md _ _ _ hi hin)
   ·cases hf
  ·cases hf
theorem w8 {P:Program}{V:EnvF}{U:Nat->Prop}(hU: ∀s sv,V.slot s=some sv->sv.inU U){t:TypeId}{ps:List (Nat×Operand)}{l:List SV}(hb:fB P V t ps=some l): ∀s∈l,s.in1 U:=by
 simp only[fB]at hb;split at hb
 ·split at hb
  ·split at hb
   ·rename_i hzs _;refine fillSV_in hU ps _ l hb ?_;have key: ∀(vs:List Value) (l:List SV),f9 vs=some l->∀s∈l,s.in1 U:=by
     intro vs
     induction vs with
     |nil=>intro l h;simp only[f9,D6]at h;subst h;simp
     |cons v vs ih=>
      intro l h;simp only[f9]at h;split at h
      ·rename_i p l' hp hps;obtain rfl:=D3 h;have h2:=ih l' hps;intro s hs;rcases DO.1 hs with rfl|hs
       ·split at hp;·obtain rfl:=D3 hp;trivial
        ·obtain rfl:=D3 hp;trivial
        ·obtain⟨q0,_,rfl⟩:=DY.1 hp;trivial
       ·exact h2 s hs
      ·cases h
    exact key _ _ hzs
   ·cases hb
  ·cases hb
 ·cases hb
theorem Does.in_ {K:Ctx}{V:EnvF}{U:Nat->Prop}{n:Nat}{o:Oper}{sv:SV}{adds:List Own}(h:Does K V n o sv adds)(hU: ∀s sv,V.slot s=some sv->sv.inU U):sv.inU (em U n adds):=by
 cases h with
 |ev he=>exact SV.in_mono (C5 hU he) λ_ hq=> .inl hq
 |idxf=>trivial
 |idxo ho hx=>exact .inl (dt hU hx)
 |slf=>trivial
 |buildR ho hb=>exact SV.in_mono (s:= .tupB true _) (w8 hU hb) λ_ hq=> .inl hq
 |box=>exact .inr ⟨DL _,by simp⟩
 |bsv=>trivial
 |gen=>trivial
 |genO=>exact .inr ⟨DL _,by simp⟩
 |alloc=>exact .inr ⟨DL _,by simp⟩
 |bso=>exact .inr ⟨DL _,by simp⟩
 | @call x args tys f first caps ps al fx res ho hx ha hspec=>
  have h1:=rK (U:=em U n (RV.owns (!al) res)) (!al) res n λi hi=> .inr ⟨by omega,by omega⟩;unfold RV.one;generalize RV.svs (!al) n res=l at h1
  match l,h1 with
  | [],h1=>exact λs hs=>h1 s hs
  | [s],h1=>
   have:=h1 s (.head _);cases s with
   |tupB ag l=>exact this.elim
   |_=>exact this
  |s::s'::l,h1=>exact λt ht=>h1 t ht
inductive DoesW (K:Ctx)(V:EnvF)(o:Oper)(q:Nat)(c':Own):Prop
 |mk {t:TypeId} {x y:Operand} {i off st:Nat} {c:Own} {sy:SV} {fp:Bool} {p:PV} {inf:TypeInfo}:o.op= .store t x y->V.get x=some (.optr q i off st)->V.own q=some c->V.get y=some sy->sy.ff=some (fp,p)->
   K.P.info? t=some inf->p.cells.length=inf.size->c.put i off st fp p.cells=some c'->DoesW K V o q c'
theorem DoesW.congr {K:Ctx}{V V':EnvF}{o:Oper}{q:Nat}{c':Own}(h:f5 V V' o)(hd:DoesW K V o q c'):DoesW K V' o q c':=by
 cases hd with
 |mk ho hx hq hy hp hi hs hc=>
  unfold f5 at h;rw[ho]at h;obtain⟨h1,h2⟩:=h _ (by simp[Op.operands];exact .inl Y);exact .mk ho (h1.trans hx) ((h2 _ hx).trans hq) ((h _ (by simp[Op.operands])).1.trans hy) hp hi hs hc
def Dh:List Nat:=[]
def lE:Op->Bool
 | .call { callee:= .builtin .append,.. }=>true
 | .call { callee:= .value (.func f),.. }=>Dh.contains f
 |_=>false
structure SpecD (P:Program)(f:FuncId)(e:TypeId)(sz:Nat)(rows:List (List PV))(args:List PV)(rows':List (List PV)):Prop where
 isFn: ∃fn,P.funcs[f]? =some fn/\fn.body.isSome=true/\(fn.name== "runtime.NumGoroutine")=false
 out: ∀(w:World) (Z1:Nat->Prop) (v0:Value) (vs:List Value),ar w (λ_=>Z1) v0 (.sl e sz true rows)->(∀b,Z1 b->¬VB v0 b)->L2 (Rep w (λb=> ¬VB v0 b)) vs args->
  Calls P f (v0::vs).toArray w λx w'=> ∃r:Value,x= .returned r/\w'.os=w.os/\w'.tape=w.tape/\w'.output=w.output/\w.heap.size<=w'.heap.size/\(∀b,b<w.heap.size->¬VB v0 b->w'.heap[b]? =w.heap[b]?)/\
   ar w' (λ_ b=>Z1 b/\¬VB r b) r (.sl e sz true rows')/\∀g,VB r g->VB v0 g∨w.heap.size<=g
inductive DoesA (K:Ctx)(V:EnvF)(o:Oper):Option Nat->Own->Prop
 |own {args:Array Operand} {tys:Array TypeId} {s y:Operand} {t e:TypeId} {q sz:Nat} {fr fy:Bool} {rows rows2:List (List PV)} {sy:SV} {inf:TypeInfo} {z:Value}:o.op= .call { callee:= .builtin .append,args:=args,argTypes:=tys }->args.toList=[s,y]->tys.toList=[t,t]->
   V.get s=some (.ref q)->V.own q=some (.sl e sz fr rows)->V.get y=some sy->V.pvf sy=some (fy,.sl rows2)->K.P.underlying t=some (.slice e)->K.P.info? e=some inf->inf.size=sz->inf.zero=some z->z.cells.size=sz->0<sz->1<=inf.bytes->(∀r∈rows2,r.length=sz)->
   (rows.length+rows2.length)*inf.bytes<=140737488355328->DoesA K V o (some q) (.sl e sz (fr&&fy) (rows++rows2))
 |nil {args:Array Operand} {tys:Array TypeId} {s y:Operand} {t e:TypeId} {fy:Bool} {rows2:List (List PV)} {sy:SV} {inf:TypeInfo} {z:Value}:o.op= .call { callee:= .builtin .append,args:=args,argTypes:=tys }->args.toList=[s,y]->tys.toList=[t,t]->
   V.get s=some .nilsl->V.get y=some sy->V.pvf sy=some (fy,.sl rows2)->K.P.underlying t=some (.slice e)->K.P.info? e=some inf->inf.zero=some z->z.cells.size=inf.size->0<inf.size->1<=inf.bytes->(∀r∈rows2,r.length=inf.size)->
   rows2.length*inf.bytes<=140737488355328->DoesA K V o none (.sl e inf.size fy rows2)
 |call {args:Array Operand} {tys:Array TypeId} {x s y1 y2:Operand} {f:FuncId} {fx f1 f2 fr:Bool} {p1 p2:PV} {e:TypeId} {q sz:Nat} {rows rows':List (List PV)}:lE o.op=true->o.op= .call { callee:= .value x,args:=args,argTypes:=tys }->args.toList=[s,y1,y2]->V.get s=some (.ref q)->
   V.get x=some (.val fx (.fn (.func f) [] []))->V.own q=some (.sl e sz fr rows)->V.get y1=some (.val f1 p1)->V.get y2=some (.val f2 p2)->SpecD K.P f e sz rows [p1,p2] rows'->DoesA K V o (some q) (.sl e sz fr rows')
theorem ql {V V':EnvF}{sv:SV}(h:sv.inU (λq=>V'.own q=V.own q)):V'.pvf sv=V.pvf sv:=by
 cases sv with
 |ref o=>simp only[SV.inU,SV.in1]at h;simp only[EnvF.pvf,h]
 |_=>rfl
theorem DoesA.congr {K:Ctx}{V V':EnvF}{o:Oper}{src:Option Nat}{c:Own}(h:f5 V V' o)(hd:DoesA K V o src c):DoesA K V' o src c:=by
 cases hd with
 | @own args tys s y t e q sz fr fy rows rows2 sy inf z ho ha ht hs hq hy hp=>
  unfold f5 at h;rw[ho]at h;have hx: ∀x,x∈[s,y]->V'.get x=V.get x/\∀sv,V.get x=some sv->sv.inU (λq=>V'.own q=V.own q):=λx hx=>h x (by rw[<-ha]at hx;simpa[Op.operands,Call.operands]using hx);exact .own ho ha ht ((hx s (by simp)).1.trans hs) (((hx s (by simp)).2 _ hs).trans hq) ((hx y (by simp)).1.trans hy) ((ql ((hx y (by simp)).2 _ hy)).trans hp) ‹_› ‹_› ‹_› ‹_› ‹_› ‹_› ‹_› ‹_› ‹_›
 | @nil args tys s y t e fy rows2 sy inf z ho ha ht hs hy hp=>
  unfold f5 at h;rw[ho]at h;have hx: ∀x,x∈[s,y]->V'.get x=V.get x/\∀sv,V.get x=some sv->sv.inU (λq=>V'.own q=V.own q):=λx hx=>h x (by rw[<-ha]at hx;simpa[Op.operands,Call.operands]using hx);exact .nil ho ha ht ((hx s (by simp)).1.trans hs) ((hx y (by simp)).1.trans hy) ((ql ((hx y (by simp)).2 _ hy)).trans hp) ‹_› ‹_› ‹_› ‹_› ‹_› ‹_› ‹_› ‹_›
 | @call args tys x s y1 y2 f fx f1 f2 fr p1 p2 e q sz rows rows' him ho ha hs hx0 hq h1 h2 hspec=>
  unfold f5 at h;rw[ho]at h;have hx: ∀x,x∈[s,y1,y2]->V'.get x=V.get x/\∀sv,V.get x=some sv->sv.inU (λq=>V'.own q=V.own q):=λz hz=>h z (by rw[<-ha]at hz;simp[Op.operands,Call.operands];exact .inr (by simpa using hz));exact .call him ho ha ((hx s (by simp)).1.trans hs) ((h x (by simp[Op.operands,Call.operands])).1.trans hx0) (((hx s (by simp)).2 _ hs).trans hq) ((hx y1 (by simp)).1.trans h1) ((hx y2 (by simp)).1.trans h2) hspec
theorem DoesB.congr {K:Ctx}{V V':EnvF}{o:Oper}{n g q q2:Nat}{sv:SV}{ad:List Own}(h:f5 V V' o)(hg:V'.slot g=V.slot g)(h2:V'.own q2=V.own q2)(hd:DoesB K V n o g q q2 sv ad):DoesB K V' n o g q q2 sv ad:=by
 cases hd with
 | @mk y x args tys f fx frb fr res row e sz rows u ho hx0 hax hbx hbo hgs hbq hspec=>
  unfold f5 at h;rw[ho]at h;obtain⟨a1,_⟩:=h y (by simp[Op.operands,Call.operands]);obtain⟨b1,b2⟩:=h x (by
   have:x∈args.toList:=(by rw[hax];exact .head _);simp[Op.operands,Call.operands];exact .inr (by simpa using this))
  exact .mk ho (a1.trans hx0) hax (b1.trans hbx) ((b2 _ hbx).trans hbo) (hg.trans hgs) (h2.trans hbq) hspec
 | @agg y x xs args tys f fx fa fr res row ps e sz rows u ho hx0 hax hbx hps hgs hbq hspec=>
  unfold f5 at h;rw[ho]at h;have hx: ∀z,z∈args.toList->V'.get z=V.get z/\∀sv,V.get z=some sv->sv.inU (λq=>V'.own q=V.own q):=λz hz=>h z (by simp[Op.operands,Call.operands];exact .inr (by simpa using hz));exact .agg ho ((h y (by simp[Op.operands,Call.operands])).1.trans hx0) hax ((hx x (by rw[hax];exact .head _)).1.trans hbx) ((kH _ _ λz hz=>hx z (by rw[hax];exact .tail _ hz)).trans hps) (hg.trans hgs) (h2.trans hbq) hspec
theorem DoesB.in_ {K:Ctx}{V:EnvF}{U:Nat->Prop}{n g q q2:Nat}{o:Oper}{sv:SV}{adds:List Own}(h:DoesB K V n o g q q2 sv adds):sv.inU (em U n adds):=by
 have key: ∀res:List RV,(RV.one true n res).inU (em U n (RV.owns true res)):=λres=>by
  have h1:=rK (U:=em U n (RV.owns true res)) true res n λi hi=> .inr ⟨by omega,by omega⟩;unfold RV.one;generalize RV.svs true n res=l at h1
  match l,h1 with
  | [],h1=>exact λs hs=>h1 s hs
  | [s],h1=>
   have:=h1 s (.head _);cases s with
   |tupB ag l=>exact this.elim
   |_=>exact this
  |s::s'::l,h1=>exact λt ht=>h1 t ht
 cases h with
 |mk=>exact key _
 |agg=>exact key _
structure RecD where
 d:Option Nat
 sv:SV
 ad:List Own
 n:Nat
 wr:Option (Nat×Option Own)
def upd (V:EnvF)(r:RecD):EnvF:=⟨λs=>if r.d=some s then some r.sv else V.slot s,λo=>match r.wr with
 |some (q,c)=>if o=q then c else cq V.own r.n r.ad o
 |none=>cq V.own r.n r.ad o⟩
def xO:Op->Bool
 | .store .. =>true
 |_=>false
def l5 (V:EnvF)(ops:Array Oper)(q:Nat):Op->Bool
 | .store _ (.tmp s) _=>(match V.slot s with
  |some (.optr q' _ _ _)=>q' != q
  |_=>false)&&ops.toList.all λo=>o.dst != some s
 | .store .. =>false
 |_=>true
inductive RO (K:Ctx)(ops:Array Oper)(V:EnvF)(o:Oper):RecD->Prop
 |does {d n:Nat} {sv:SV} {ad:List Own}:wants ops V o=some true->o.dst=some d->K.can d=true->Does K V n o sv ad->RO K ops V o ⟨some d,sv,ad,n,none⟩
 |skip {d n:Nat}:wants ops V o=some false->o.dst=some d->K.can d=true->RO K ops V o ⟨some d,.tup [],[],n,none⟩
 |sto {n q:Nat} {c:Own}:wants ops V o=some true->o.dst=none->DoesW K V o q c->RO K ops V o ⟨none,.nilsl,[],n,some (q,some c)⟩
 |app {d n:Nat} {src:Option Nat} {c:Own}:wants ops V o=some true->o.dst=some d->K.can d=true->DoesA K V o src c->RO K ops V o ⟨some d,.ref n,[c],n,src.map λq=>(q,none)⟩
 |appf {d n q sz:Nat} {e:TypeId} {fr:Bool} {rows:List (List PV)}:wants ops V o=some true->o.dst=some d->K.can d=true->(∀b,¬K.M b)->DoesA K V o (some q) (.sl e sz fr rows)->RO K ops V o ⟨some d,.val fr (.sl rows),[],n,some (q,none)⟩
 |lraw {d n g q:Nat} {t:TypeId} {x:Operand} {sx sv:SV} {fr:Bool} {cs:List PV} {u:Value}:wants ops V o=some true->o.dst=some d->K.can d=true->o.op= .load t x->V.get x=some sx->V.cellsAt sx=some (fr,cs)->iq K.P t cs=some (.raw u)->V.slot g=some (.eq u q)->
   (ops.toList.all λo'=>o'.dst != some g)=true->(sv= .ref q∨(∃b,u= .pointer (some ⟨b,0,none⟩))/\sv= .optr q 0 0 0)->RO K ops V o ⟨some d,sv,[],n,none⟩
 |cbox {d n g q q2:Nat} {sv:SV} {ad:List Own}:wants ops V o=some true->o.dst=some d->K.can d=true->DoesB K V n o g q q2 sv ad->(ops.toList.all λo'=>o'.dst != some g&&l5 V ops q2 o'.op&& !lE o'.op)=true->RO K ops V o ⟨some d,sv,ad,n,none⟩
 |lmap {d n g q m:Nat} {t:TypeId} {x i:Operand} {si:SV} {fi fr:Bool} {pi:PV} {b:Option (List Nat×Nat)} {l:List (Value×PV)} {u:Value}:wants ops V o=some true->o.dst=some d->K.can d=true->o.op= .lookup t x i false->V.get x=some (.ref m)->V.own m=some (.mp fr b l)->V.get i=some si->si.ff=some (fi,pi)->
   (∀(A:Act) (w:World) (Z:Bool->Nat->Prop),ar w Z (A.eval x) (.mp fr b l)->Rep w (Z fi) (A.eval i) pi->(execOp A.eval o).run K.P w= .ok (.value u) w)->V.slot g=some (.eq u q)->
   (ops.toList.all λo'=>o'.dst != some g)=true->RO K ops V o ⟨some d,.ref q,[],n,none⟩
theorem nh {K:Ctx}{V:EnvF}{U:Nat->Prop}{φ:Nat->Value}{a:Act}{w:World}(hφ:RelW K V U φ a w){o:Oper}{args:Array Operand}{tys:Array TypeId}{x s y1 y2:Operand}{f:FuncId}{fx f1 f2 fr:Bool}{p1 p2:PV}{e:TypeId}{q sz n:Nat}{rows rows':List (List PV)}
  (ho:o.op= .call { callee:= .value x,args:=args,argTypes:=tys }) (ha:args.toList=[s,y1,y2]) (h0:V.get s=some (.ref q)) (hx:V.get x=some (.val fx (.fn (.func f) [] []))) (hq:V.own q=some (.sl e sz fr rows)) (h1:V.get y1=some (.val f1 p1)) (h2:V.get y2=some (.val f2 p2))
  (hspec:SpecD K.P f e sz rows [p1,p2] rows') (hn: ¬U n) {next:Act->World->Prop} {Q:Exit->Act->World->Prop}
  (hk: ∀v w' φ',RelW K ⟨V.slot,aw V.own (some q) n (.sl e sz fr rows')⟩ (λi=>U i∨i=n) φ' a w'->v=φ' n->next (a.put o.dst v) w'):o.wp K.P a w next Q:=by
 obtain⟨hrf,_⟩:=ae hφ hx;generalize hvx:a.eval x=vx at hrf;cases hrf with
 |fn _ vs vcs _ _ hf hc=>
 cases hf;cases hc;obtain⟨fn,hfn,hbody,hname⟩:=hspec.isFn;obtain⟨hr0,_⟩:=ae hφ h0;have hr0:a.eval s=φ q:=hr0;have hrun:(execOp a.eval o).run K.P w= .ok (.enter f (φ q::[a.eval y1,a.eval y2]).toArray) w:=by
  have hb:fn.body.isNone=false:=(by cases hfb:fn.body<;>simp_all);simp only[execOp,ho,resolve,hvx,Deferred.ofValue,DK,Dr,DA,invoke,callFunc,run_program,hfn,hname,hb,EF,if_false];congr 2;apply Array.ext';simp[ha,hr0]
 unfold Oper.wp;rw[hrun];have hoq:=hφ.own q _ hq;have hqU:=hφ.inU q _ hq;have hne: ∀i,U i->i≠n:=λi hi e=>hn (e▸hi);obtain⟨hr1,_⟩:=ae hφ h1;obtain⟨hr2,_⟩:=ae hφ h2;have hr1:Rep w (Zf K V φ f1) (a.eval y1) p1:=hr1;have hr2:Rep w (Zf K V φ f2) (a.eval y2) p2:=hr2;refine(hspec.out w (Zf K V φ fr) (φ q) [a.eval y1,a.eval y2] hoq (λb hb=>hb.1.2 q _ hq) (.cons (hr1.mono λb hb _=>⟨hb.1.2 q _ hq,rfl⟩) (.cons (hr2.mono λb hb _=>⟨hb.1.2 q _ hq,rfl⟩) .nil))).mono ?_;rintro _ w' ⟨r,rfl,hos,htape,hout,hsize,hblk,hown',hvr⟩;refine hk r w' (λi=>if i=n then r else φ i) ?_ (by simp);have hZ: ∀f b,Zf K V φ f b->¬VB r b->Zf K ⟨V.slot,aw V.own (some q) n (.sl e sz fr rows')⟩ (λi=>if i=n then r else φ i) f b:=by
  refine λf b hb hnr=>⟨⟨hb.1.1,λi c hi hv=> ?_⟩,hb.2⟩;simp only[aw]at hi;by_cases e1:i=n
  ·subst e1;simp only[D4]at hv;exact hnr hv
  ·rw[D2 e1]at hi;simp only[D2 e1]at hv;split at hi;·cases hi
   ·exact hb.1.2 i c hi hv
 refine hφ.step (λb=>VB (φ q) b) (λi=>i=n∨i=q) Y (λ_ hu=> .inl hu) (λi hi=>by simp only[D2 (hne i hi)]) hos htape hout hsize (λb hb hne=>hblk b hb hne) ?_ ?_ ?_ ?_
 ·intro b _ hb;exact⟨q,_,hq,hb,.inr Y⟩
 ·intro i c hi hc;simp only[aw]at hi;rw[D2 (λe=>hc (.inl e)),D2 (λe=>hc (.inr (D3 e).symm))]at hi;exact hi
 ·intro i c hi hc;have hin:i=n:=by
   rcases hc with hc|hc;·exact hc
   ·simp only[aw]at hi;by_cases e:i=n;·exact e
    ·rw[D2 e,D4 (by rw[hc])]at hi;cases hi
  subst hin;simp only[aw,D4,D6]at hi;subst hi;refine⟨.inr Y,?_,λg hg=> ?_⟩
  ·simp only[D4];obtain⟨xs',hwn,hl,h1,h2⟩:=hown';exact⟨xs',hwn,Rep.monoL (λb hb _=>⟨hZ fr b hb.1 hb.2,rfl⟩) hl,h1,h2⟩
  ·simp only[D4]at hg;rcases hvr g hg with h|h;·exact .inr ⟨q,_,hq,h,.inr Y⟩
   ·exact .inl h
 ·intro i i' c c' g hi hi' hc hc' _ _;have key: ∀i c,aw V.own (some q) n (.sl e sz fr rows') i=some c->(i=n∨i=q)->i=n:=by
   intro i c hi hc;rcases hc with hc|hc;·exact hc
   ·simp only[aw]at hi;by_cases e:i=n;·exact e
    ·rw[D2 e,D4 (by rw[hc])]at hi;cases hi
  rw[key i c hi hc,key i' c' hi' hc']
theorem RelW.frzN {K:Ctx}{S:Nat->Option SV}{own:Nat->Option Own}{src:Option Nat}{n:Nat}{e:TypeId}{sz:Nat}{fr:Bool}{rows:List (List PV)}{U:Nat->Prop}{φ:Nat->Value}{a:Act}{w:World}(hM: ∀b,¬K.M b)(hn: ¬U n)(hS: ∀s sv,S s=some sv->sv.inU U)(hown: ∀o c,own o=some c->U o)
  (h:RelW K ⟨S,aw own src n (.sl e sz fr rows)⟩ (λi=>U i∨i=n) φ a w):RelW K ⟨S,λi=>if src=some i then none else own i⟩ U φ a w/\Rep w (Zf K ⟨S,λi=>if src=some i then none else own i⟩ φ fr) (φ n) (.sl rows):=by
 have hown': ∀q c,(if src=some q then none else own q)=some c->q≠n/\aw own src n (.sl e sz fr rows) q=some c:=by
  intro q c hq;have hne:q≠n:=λe=>by
   subst e;split at hq;·cases hq
   ·exact hn (hown _ _ hq)
  exact⟨hne,by simp only[aw];rw[D2 hne];exact hq⟩
 have hnn:aw own src n (.sl e sz fr rows) n=some (.sl e sz fr rows):=(by simp[aw]);have hZ: ∀f b,Zf K ⟨S,aw own src n (.sl e sz fr rows)⟩ φ f b->Zf K ⟨S,λi=>if src=some i then none else own i⟩ φ f b:=
  λf b hb=>⟨⟨hb.1.1,λq c hq=>hb.1.2 q c (hown' q c hq).2⟩,hb.2⟩
 refine⟨⟨h.df,h.sz,h.old,h.kept,?_,?_,?_,?_,?_,hS⟩,?_⟩
 ·intro q c hq;exact(h.own q c (hown' q c hq).2).mono (λ_ _=>rfl) λf b hb _=>⟨hZ f b hb,rfl⟩
 ·intro q c g hq;exact h.mine q c g (hown' q c hq).2
 ·intro q c hq;refine hown q c ?_;simp only at hq;split at hq;·cases hq
  ·exact hq
 ·intro q q' c c' g hq hq';exact h.dis q q' c c' g (hown' q c hq).2 (hown' q' c' hq').2
 ·intro t sv hsv;obtain⟨v,hv,hr⟩:=h.slot t sv hsv;exact⟨v,hv,hr.mono (h.sin t sv hsv) (λf b hb _=>⟨hZ f b hb,rfl⟩) (λ_ _=>rfl)⟩
 ·obtain⟨xs,hwn,hl,h1,h2⟩:=h.own n _ hnn;have hl':L2 (Rep w (Zf K ⟨S,λi=>if src=some i then none else own i⟩ φ fr)) xs rows.flatten:=Rep.monoL (λb hb _=>⟨hZ fr b hb,rfl⟩) hl;have hcell:=λg hg=>hwn.cells (g:=g) hg;have hlt:=hwn.lt;rcases hwn.2 with ⟨hv0,hn0⟩|⟨g,cap,cur,hv0,_,hgc,hnc,hcm,_⟩
  ·rw[hv0];have:rows=[]:=DP hn0;subst this;exact .nilsl
  ·have hvb:VB (φ n) g:=(by rw[hv0];exact .inl Y);have hm:=h.mine n _ g hnn hvb;have hge:K.w0.heap.size<=g:=hm.resolve_right (hM g);rw[hv0]at hcell hlt⊢;refine .sl g 0 cap sz rows xs ⟨⟨.inl hge,λq c hq hvq=> ?_⟩,λ_=>K.hF _ hge⟩ (hlt g Y).2 h1 h2 (λj v hj=> ?_) hnc hcm hl'
   ·obtain⟨hne,hq'⟩:=hown' q c hq;exact hne (h.dis q n c _ g hq' hnn hvq hvb)
   ·have:=hcell g Y j v hj;rw[bD]at this;exact bY hgc this
inductive TD (K:Ctx)(ops:Array Oper):List Oper->EnvF->Nat->EnvF->Nat->Prop
 |nil {V:EnvF} {n:Nat}:TD K ops [] V n V n
 |step {o:Oper} {rest:List Oper} {V V':EnvF} {n':Nat} {r:RecD}:RO K ops V o r->TD K ops rest (upd V r) (r.n+r.ad.length) V' n'->TD K ops (o::rest) V r.n V' n'
theorem EnvF.ext {V V':EnvF}(h1: ∀s,V.slot s=V'.slot s)(h2: ∀o,V.own o=V'.own o):V=V':=by
 cases V;cases V';simp only[EnvF.mk.injEq];exact⟨funext h1,funext h2⟩
theorem bX (f:Nat->Option Own)(n o:Nat):cq f n [] o=f o:=by
 simp only[cq,Ee,F1];rw[D2 (by omega)]
theorem TD.does {K:Ctx}{ops:Array Oper}{o:Oper}{rest:List Oper}{V V1 V':EnvF}{n n' d:Nat}{sv:SV}{adds:List Own}(hw:wants ops V o=some true)(hd:o.dst=some d)(hlt:K.can d=true)(h:Does K V n o sv adds)
  (e:V1=⟨λs=>if s=d then some sv else V.slot s,cq V.own n adds⟩) (k:TD K ops rest V1 (n+adds.length) V' n'):TD K ops (o::rest) V n V' n':=by
 have e2:V1=upd V ⟨some d,sv,adds,n,none⟩:=by
  rw[e];refine EnvF.ext (λs=> ?_) (λo=>rfl);simp only[upd,D6];by_cases h:s=d;·rw[D4 h,D4 h.symm]
  ·rw[D2 h,D2 (Ne.symm h)]
 rw[e2]at k;exact .step (.does hw hd hlt h) k
theorem TD.skip {K:Ctx}{ops:Array Oper}{o:Oper}{rest:List Oper}{V V1 V':EnvF}{n n' d:Nat}(hw:wants ops V o=some false)(hd:o.dst=some d)(hlt:K.can d=true)
  (e:V1=⟨λs=>if s=d then some (.tup [])else V.slot s,V.own⟩) (k:TD K ops rest V1 n V' n'):TD K ops (o::rest) V n V' n':=by
 have e2:V1=upd V ⟨some d,.tup [],[],n,none⟩:=by
  rw[e];refine EnvF.ext (λs=> ?_) (λo=>(bX _ _ _).symm);simp only[upd,D6];by_cases h:s=d;·rw[D4 h,D4 h.symm]
  ·rw[D2 h,D2 (Ne.symm h)]
 rw[e2]at k;exact .step (.skip hw hd hlt) k
theorem TD.sto {K:Ctx}{ops:Array Oper}{o:Oper}{rest:List Oper}{V V1 V':EnvF}{n n' q:Nat}{c:Own}(hw:wants ops V o=some true)(hd:o.dst=none)(h:DoesW K V o q c)
  (e:V1=⟨V.slot,λj=>if j=q then some c else V.own j⟩) (k:TD K ops rest V1 n V' n'):TD K ops (o::rest) V n V' n':=by
 have e2:V1=upd V ⟨none,.nilsl,[],n,some (q,some c)⟩:=by
  rw[e];refine EnvF.ext (λs=> ?_) (λo=> ?_);·simp[upd]
  ·simp only[upd];by_cases h:o=q;·rw[D4 h,D4 h]
   ·rw[D2 h,D2 h];exact(bX _ _ _).symm
 rw[e2]at k;exact .step (.sto hw hd h) k
theorem TD.recs {K:Ctx}{ops:Array Oper}{l:List Oper}{V V':EnvF}{n n':Nat}(h:TD K ops l V n V' n'):
  ∃(rs:Nat->RecD) (W:Nat->EnvF),W 0=V/\W l.length=V'/\(rs 0).n=n/\(rs l.length).n=n'/\(∀i,i<l.length->W (i+1)=upd (W i) (rs i)/\(rs (i+1)).n=(rs i).n+(rs i).ad.length)/\
   ∀(i:Nat) o,l[i]? =some o->RO K ops (W i) o (rs i):=by
 induction h with
 | @nil V n=>exact⟨λ_=>⟨none,.nilsl,[],n,none⟩,λ_=>V,rfl,rfl,rfl,rfl,by simp,by simp⟩
 | @step o rest V V' n' r hr _ ih=>
  obtain⟨rs,W,h0,h1,h2,h3,h4,h5⟩:=ih;refine⟨λi=>match i with|0=>r|i+1=>rs i,λi=>match i with|0=>V|i+1=>W i,rfl,h1,rfl,h3,?_,?_⟩
  ·intro i hi;cases i with
   |zero=>exact⟨h0,h2⟩
   |succ i=>exact h4 i (by simpa using hi)
  ·intro i o' ho;cases i with
   |zero=>simp at ho;subst ho;exact hr
   |succ i=>exact h5 i o' (by simpa using ho)
open Classical in
noncomputable def e5 (rs:Nat->RecD)(S:Nat->Prop)(o:Nat):Option (Option Own):=
 if h: ∃c,∃k,S k/\(rs k).wr=some (o,c)/\∀k' c',S k'->(rs k').wr=some (o,c')->k'<=k then some h.choose else none
open Classical in
noncomputable def ov (V0:EnvF)(rs:Nat->RecD)(S:Nat->Prop):EnvF:=
 ⟨λs=>if h: ∃k,S k/\(rs k).d=some s then some (rs h.choose).sv else V0.slot s,
 λo=>match e5 rs S o with
  |some c=>c
  |none=>if h: ∃k,S k/\(rs k).n<=o/\o<(rs k).n+(rs k).ad.length then(rs h.choose).ad[o-(rs h.choose).n]? else V0.own o⟩
section
variable {V0:EnvF}{rs:Nat->RecD}{m:Nat}
theorem mx {S:Nat->Prop}{o k:Nat}{c:Option Own}(hk:S k)(hw:(rs k).wr=some (o,c))(hm: ∀k' c',S k'->(rs k').wr=some (o,c')->k'<=k):e5 rs S o=some c:=by
 have h: ∃c,∃k,S k/\(rs k).wr=some (o,c)/\∀k' c',S k'->(rs k').wr=some (o,c')->k'<=k:=⟨c,k,hk,hw,hm⟩;unfold e5;rw[dif_pos h];obtain⟨k2,h1,h2,h3⟩:=h.choose_spec;have:k2=k:=Nat.le_antisymm (hm k2 _ h1 h2) (h3 k c hk hw);subst this;rw[hw]at h2;simp only[D6,Prod.mk.injEq,true_and]at h2;rw[<-h2]
theorem gT {S:Nat->Prop}{o:Nat}(h: ∀k c,S k->(rs k).wr≠some (o,c)):e5 rs S o=none:=by
 unfold e5;rw[dif_neg];rintro⟨c,k,hk,hw,_⟩;exact h k c hk hw
theorem AE {S:Nat->Prop}(hS: ∀k,S k->k<m){o k0:Nat}{c0:Option Own}(hk:S k0)(hw:(rs k0).wr=some (o,c0)): ∃k c,S k/\(rs k).wr=some (o,c)/\∀k' c',S k'->(rs k').wr=some (o,c')->k'<=k:=by
 have key: ∀r k0 c0,m-k0<=r->S k0->(rs k0).wr=some (o,c0)->∃k c,S k/\(rs k).wr=some (o,c)/\∀k' c',S k'->(rs k').wr=some (o,c')->k'<=k:=by
  intro r
  induction r with
  |zero=>intro k0 c0 hr hk _;have:=hS k0 hk;omega
  |succ r ih=>
   intro k0 c0 hr hk hw;by_cases h: ∃k' c',S k'/\(rs k').wr=some (o,c')/\k0<k'
   ·obtain⟨k',c',h1,h2,h3⟩:=h;exact ih k' c' (by have:=hS k' h1;omega) h1 h2
   ·exact⟨k0,c0,hk,hw,λk' c' h1 h2=>H7 λh3=>h ⟨k',c',h1,h2,h3⟩⟩
 exact key (m-k0) k0 c0 (DL _) hk hw
theorem m8 {S S':Nat->Prop}(hS: ∀k,S k->k<m){o:Nat}(h: ∀k c,(rs k).wr=some (o,c)->(S k↔S' k)):e5 rs S o=e5 rs S' o:=by
 by_cases h0: ∃k c,S k/\(rs k).wr=some (o,c)
 ·obtain⟨k0,c0,hk,hw⟩:=h0;obtain⟨k,c,h1,h2,h3⟩:=AE hS hk hw;rw[mx h1 h2 h3,mx ((h k c h2).1 h1) h2 λk' c' hk' hw'=>h3 k' c' ((h k' c' hw').2 hk') hw']
 ·rw[gT λk c hk hw=>h0 ⟨k,c,hk,hw⟩,gT λk c hk hw=>h0 ⟨k,c,(h k c hw).2 hk,hw⟩]
structure Sound (V0:EnvF)(rs:Nat->RecD)(m:Nat):Prop where
 inj: ∀i j s,i<m->j<m->(rs i).d=some s->(rs j).d=some s->i=j
 nn: ∀i,i<m->(rs (i+1)).n=(rs i).n+(rs i).ad.length
 low: ∀i q c,i<m->(rs i).wr=some (q,c)->q<(rs i).n
theorem Sound.mono (hs:Sound V0 rs m){i j:Nat}(hij:i<=j)(hj:j<=m):(rs i).n<=(rs j).n:=by
 induction j with
 |zero=>
  have:i=0:=(by omega);subst this;exact DL _
 |succ j ih=>
  by_cases e:i=j+1;·subst e;exact DL _
  ·have:=ih (by omega) (by omega);have:=hs.nn j (by omega);omega
theorem Sound.dis (hs:Sound V0 rs m){i j o:Nat}(hi:i<m)(hj:j<m)(h1:(rs i).n<=o/\o<(rs i).n+(rs i).ad.length)(h2:(rs j).n<=o/\o<(rs j).n+(rs j).ad.length):i=j:=by
 rcases Gx i j with h|h|h;·have:=hs.mono (i:=i+1) (j:=j) h (by omega);have:=hs.nn i hi;omega
 ·exact h
 ·have:=hs.mono (i:=j+1) (j:=i) h (by omega);have:=hs.nn j hj;omega
theorem lc (hs:Sound V0 rs m){S:Nat->Prop}(hS: ∀k,S k->k<m){k s:Nat}(hk:S k)(hd:(rs k).d=some s):(ov V0 rs S).slot s=some (rs k).sv:=by
 have h: ∃j,S j/\(rs j).d=some s:=⟨k,hk,hd⟩;simp only[ov];rw[dif_pos h];have:=hs.inj _ _ s (hS _ h.choose_spec.1) (hS k hk) h.choose_spec.2 hd;rw[this]
theorem be {S:Nat->Prop}{s:Nat}(h: ∀k,S k->(rs k).d≠some s):(ov V0 rs S).slot s=V0.slot s:=by
 simp only[ov];rw[dif_neg];rintro⟨k,hk,e⟩;exact h k hk e
theorem oL (hs:Sound V0 rs m){S:Nat->Prop}(hS: ∀k,S k->k<m){k o:Nat}(hk:S k)(ho:(rs k).n<=o/\o<(rs k).n+(rs k).ad.length):(ov V0 rs S).own o=match e5 rs S o with
  |some c=>c
  |none=>(rs k).ad[o-(rs k).n]? :=by
 have h: ∃j,S j/\(rs j).n<=o/\o<(rs j).n+(rs j).ad.length:=⟨k,hk,ho⟩;simp only[ov];cases e5 rs S o with
 |some c=>rfl
 |none=>
  simp only[];rw[dif_pos h];have:=hs.dis (hS _ h.choose_spec.1) (hS k hk) h.choose_spec.2 ho;rw[this]
theorem eL {S:Nat->Prop}{o:Nat}(h: ∀k,S k->¬((rs k).n<=o/\o<(rs k).n+(rs k).ad.length)):(ov V0 rs S).own o=match e5 rs S o with
  |some c=>c
  |none=>V0.own o:=by
 simp only[ov];cases e5 rs S o with
 |some c=>rfl
 |none=>
  simp only[];rw[dif_neg];rintro⟨k,hk,e⟩;exact h k hk e
theorem gO {S S':Nat->Prop}(h: ∀k,S k↔S' k):ov V0 rs S=ov V0 rs S':=by
 have:S=S':=funext λk=>propext (h k);rw[this]
theorem z8 (hs:Sound V0 rs m){S:Nat->Prop}(hS: ∀k,S k->k<m){j:Nat}(hj:j<m)(hn: ¬S j)(hmax: ∀q c k c',(rs j).wr=some (q,c)->S k->(rs k).wr=some (q,c')->k<j)(hcl: ∀k q c,S k->(rs k).wr=some (q,c)->¬((rs j).n<=q/\q<(rs j).n+(rs j).ad.length)):ov V0 rs (λk=>S k∨k=j)=upd (ov V0 rs S) (rs j):=by
 have hS': ∀k,(S k∨k=j)->k<m:=λk hk=>hk.elim (hS k) (λe=>e▸hj);refine EnvF.ext (λs=> ?_) (λo=> ?_)
 ·by_cases e:(rs j).d=some s
  ·rw[lc hs hS' (k:=j) (.inr Y) e];simp[upd,e]
  ·simp only[upd];rw[D2 e];by_cases h: ∃k,S k/\(rs k).d=some s
   ·obtain⟨k,hk,hd⟩:=h;rw[lc hs hS' (k:=k) (.inl hk) hd,lc hs hS hk hd]
   ·rw[be (λk hk hd=>hk.elim (λhk=>h ⟨k,hk,hd⟩) (λhk=>e (hk▸hd))),be (λk hk hd=>h ⟨k,hk,hd⟩)]
 ·have plain:(∀c,(rs j).wr≠some (o,c))->(ov V0 rs (λk=>S k∨k=j)).own o=cq (ov V0 rs S).own (rs j).n (rs j).ad o:=by
   intro hnw;have hl:e5 rs (λk=>S k∨k=j) o=e5 rs S o:=(m8 hS (λk c hw=>⟨.inl,λh=>h.elim id λe=>DU (e▸hw) (hnw c)⟩)).symm;simp only[cq];by_cases e:(rs j).n<=o/\o<(rs j).n+(rs j).ad.length;·rw[D4 e,oL hs hS' (k:=j) (.inr Y) e,hl,gT λk c hk hw=>hcl k o c hk hw e]
   ·rw[D2 e];by_cases h: ∃k,S k/\(rs k).n<=o/\o<(rs k).n+(rs k).ad.length
    ·obtain⟨k,hk,ho⟩:=h;rw[oL hs hS' (k:=k) (.inl hk) ho,oL hs hS hk ho,hl]
    ·rw[eL (λk hk hd=>hk.elim (λhk=>h ⟨k,hk,hd⟩) (λhk=>e (hk▸hd))),eL (λk hk hd=>h ⟨k,hk,hd⟩),hl]
  simp only[upd];cases hw:(rs j).wr with
  |none=>exact plain λc=>by rw[hw];simp
  |some x=>
   obtain⟨q,c⟩:=x;simp only[];by_cases e:o=q
   ·subst e;rw[D4 Y];simp only[ov];rw[mx (k:=j) (c:=c) (.inr Y) hw λk' c' hk' hw'=>hk'.elim (λh=>GV (hmax o c k' c' hw h hw')) (λh=>h▸DL _)]
   ·rw[D2 e];exact plain λc'=>by rw[hw];simp;intro h;exact DU h.symm e
theorem xC:ov V0 rs (λ_=>False)=V0:=EnvF.ext (λs=>be (λ_ hk=>hk.elim)) (λo=>by
 rw[eL (λ_ hk=>hk.elim),gT λ_ _ hk=>hk.elim])
theorem xB (hs:Sound V0 rs m){W:Nat->EnvF}(h0:W 0=V0)(hW: ∀i,i<m->W (i+1)=upd (W i) (rs i)): ∀i,i<=m->W i=ov V0 rs (· <i)
 |0,_=>by
  rw[h0];exact(xC (V0:=V0) (rs:=rs)).symm.trans (gO λk=>⟨λh=>h.elim,λh=>DU h (EO _)⟩)
 |i+1,hi=>by
  rw[hW i (by omega),xB hs h0 hW i (by omega),<-z8 hs (λk hk=>by omega) (by omega) (by omega) (λq c k c' _ hk _=>hk) (λk q c hk hw hr=>by
   have:=hs.low k q c (by omega) hw;have:=hs.mono (i:=k) (j:=i) (by omega) (by omega);omega)]
  exact gO λk=>by omega
end
def eT (ops:Array Oper)(k j:Nat):Bool:=if k<j then((Region.before ops).getD j 0).testBit k else((Region.before ops).getD k 0).testBit j
def okW (ops:Array Oper)(m:Nat):Bool:=
 (List.range ops.size).all λj=>match ops[j]? with
  |none=>true
  |some o=>
   (o.after.toList.all λe=> !Region.binds .any e||Nat.blt e.on j)&&
   (if j<m then(o.dst.isSome||xO o.op)&&((List.range m).all λi=>match ops[i]? with
     |none=>true
     |some oi=>i==j||((oi.dst.isNone|| !(oi.dst==o.dst))&&(match oi.dst with
      |some d=> !(o.looksAt ops).contains d||(if i<j then((Region.before ops).getD j 0).testBit i else((Region.before ops).getD i 0).testBit j)
      |none=>true)))
   else(List.range j).all λi=>((Region.before ops).getD j 0).testBit i)
def okD (ops:Array Oper)(m:Nat):Bool:=okW ops m&&((ops.toList.take m).all λo=>o.dst.isSome&& !xO o.op&& !lE o.op)
def nr (q:Nat):Option SV->Bool
 |some (.ref o)=>o != q
 |some (.optr o _ _ _)=>o != q
 |some (.fref _ o)=>o != q
 |some (.eq _ o)=>o != q
 |some (.tupB _ l)=>l.all λs=>match s with
  | .ref o=>o != q
  | .optr o _ _ _=>o != q
  | .fref _ o=>o != q
  | .eq _ o=>o != q
  |_=>true
 |_=>true
def tg:Option SV->List Nat
 |some (.optr q _ _ _)=>[q]
 |_=>[]
def tgr:Option SV->List Nat
 |some (.ref q)=>[q]
 |_=>[]
def SV.lowN (n:Nat):SV->Bool
 | .val .. | .nilsl| .fptr .. | .fix .. =>true
 | .ref o| .optr o _ _ _| .fref _ o| .eq _ o=>Nat.blt o n
 | .tupB _ _=>false
theorem oN {fr:Bool}{n n':Nat}(hn:n<=n'): ∀{res:List RV},(RV.one fr n' res).lowN n=true->RV.owns fr res=[]
 | [],h=>rfl
 | [.val p],h=>rfl
 | [.own e sz rows],h=>by
  have h:Nat.blt n' n=true:=h;rw[Fd]at h;omega
 |r::r'::res,h=>by
  cases r<;>cases r'<;>cases h
theorem DoesB.noAd {K:Ctx}{V:EnvF}{n n' g q q2:Nat}{o:Oper}{sv:SV}{ad:List Own}(h:DoesB K V n' o g q q2 sv ad)(hn:n<=n')(hs:sv.lowN n=true):ad=[]:=by
 cases h with
 |mk=>exact oN hn hs
 |agg=>exact oN hn hs
theorem Does.noAd {K:Ctx}{V:EnvF}{n n':Nat}{o:Oper}{sv:SV}{ad:List Own}(h:Does K V n' o sv ad)(hn:n<=n')(hs:sv.lowN n=true):ad=[]:=by
 have no:Nat.blt n' n=true->False:=λh=>(by rw[Fd]at h;omega);cases h with
 |call _ _ _ _=>exact oN hn hs
 |ev _=>rfl
 |idxf=>rfl
 |idxo=>rfl
 |slf=>rfl
 |bsv=>rfl
 |gen=>rfl
 |buildR=>rfl
 |box=>exact(no hs).elim
 |genO=>exact(no hs).elim
 |alloc=>exact(no hs).elim
 |bso=>exact(no hs).elim
def C8 (n:Nat)(V V':EnvF)(ops:Array Oper)(m k:Nat)(l:List Nat):Bool:=
 l.all λq=>(Nat.blt q n||(List.range k).all λj=>eT ops j k||(match ops[j]? with
   |some oj=>(match oj.dst with
    |some s=>(match V'.slot s with
     |some sv=>sv.lowN n
     |none=>false)
    |none=>true)
   |none=>true))&&(List.range m).all λj=>j==k||eT ops k j||(match ops[j]? with
    |some oj=>oj.op.operands.toList.all λx=>match x with
     | .tmp s=>nr q (V.slot s)&&nr q (V'.slot s)
     |_=>true
    |none=>true)
def tgs (V V':EnvF)(o:Op):Option (List Nat):=
 match o with
 | .store _ (.tmp t) _=>some (tg (V.slot t)++tg (V'.slot t))
 | .store _ _ _=>none
 | .call c=>if lE (.call c)then match c.args.toList with
  | .tmp t::_=>some (tgr (V.slot t)++tgr (V'.slot t))
  |_=>some []else some []
 |_=>some []
def chk (n:Nat)(V V':EnvF)(ops:Array Oper)(m:Nat):Bool:=
 (List.range m).all λk=>match ops[k]? with
  |some o=>match tgs V V' o.op with
   |some l=>C8 n V V' ops m k l
   |none=>false
  |none=>true
theorem zn {n:Nat}{V V':EnvF}{ops:Array Oper}{m:Nat}(h:okD ops m=true):chk n V V' ops m=true:=by
 simp only[okD,DJ,DI]at h;simp only[chk,DI,DM];intro k hk;cases ho:ops[k]? with
 |none=>rfl
 |some o=>
  have hm:o∈ops.toList.take m:=D7 (i:=k) (by rw[Ek,D4 hk];simpa using ho);have h2:=h.2 o hm;have h3:tgs V V' o.op=some []:=by
   unfold tgs;split;·rename_i hop;rw[hop]at h2;simp[xO]at h2
   ·rename_i hop;rw[hop]at h2;simp[xO]at h2
   ·rename_i hop;rw[hop]at h2;simp only[DJ,ER]at h2;rw[D2 (by rw[h2.2];simp)]
   ·rfl
  simp only[h3];rfl
def uM (acc:Array Nat)(l:List Edge)(s:Nat):Nat:=l.foldl (λs e=>if Region.binds .any e then s ||| 2 ^ e.on ||| acc.getD e.on 0 else s) s
theorem fold1_bit {acc:Array Nat}{i:Nat}: ∀(l:List Edge) (s:Nat),(uM acc l s).testBit i=true->s.testBit i=true∨∃e∈l,Region.binds .any e=true/\(i=e.on∨(acc.getD e.on 0).testBit i=true)
 | [],s,h=> .inl h
 |e::l,s,h=>by
  simp only[uM,Dn]at h;rcases fold1_bit l _ h with h1|⟨e',he,hb,hr⟩
  ·by_cases hb:Region.binds .any e=true
   ·rw[D4 hb]at h1;simp only[Nat.testBit_or,Ey]at h1;rcases h1 with (h1|h1)|h1;·exact .inl h1
    ·rw[Nat.testBit_two_pow]at h1;exact .inr ⟨e,.head _,hb,.inl (EL h1).symm⟩
    ·exact .inr ⟨e,.head _,hb,.inr h1⟩
   ·rw[D2 hb]at h1;exact .inl h1
  ·exact .inr ⟨e',.tail _ he,hb,hr⟩
def eV:List Oper->Array Nat->Array Nat
 | [],acc=>acc
 |o::l,acc=>eV l (acc.push (uM acc o.after.toList 0))
theorem zu (ops:Array Oper):Region.before ops=eV ops.toList #[]:=by
 unfold Region.before;rw[<-Fy];generalize (#[]:Array Nat)=acc;generalize ops.toList=l
 induction l generalizing acc with
 |nil=>rfl
 |cons o l ih=>
  simp only[Dn,eV];rw[<-ih];congr 2;rw[<-Fy];rfl
theorem nl: ∀(l:List Oper) (acc:Array Nat),(∀j,j<acc.size->(eV l acc).getD j 0=acc.getD j 0)/\
  ∀(i:Nat) o,l[i]? =some o->∃acc',(eV l acc).getD (acc.size+i) 0=uM acc' o.after.toList 0/\∀j,j<acc.size+i->acc'.getD j 0=(eV l acc).getD j 0/\acc'.size=acc.size+i
 | [],acc=>⟨λ_ _=>rfl,by simp⟩
 |o::l,acc=>by
  obtain⟨h1,h2⟩:=nl l (acc.push (uM acc o.after.toList 0));have hold: ∀j,j<acc.size->(eV (o::l) acc).getD j 0=acc.getD j 0:=by
   intro j hj;simp only[eV];rw[h1 j (by simp;omega)];simp[Array.getD,hj,Array.getElem_push,show j<acc.size+1 by omega]
  refine⟨hold,λi o' ho=> ?_⟩;cases i with
  |zero=>
   simp at ho;subst ho;refine⟨acc,?_,λj hj=>⟨(hold j (by simpa using hj)).symm,by simp⟩⟩;simp only[eV,F1];rw[h1 acc.size (by simp)];simp[Array.getD]
  |succ i=>
   simp at ho;obtain⟨acc',h3,h4⟩:=h2 i o' ho;simp only[Array.size_push]at h3 h4;refine⟨acc',?_,λj hj=> ?_⟩;·rw[<-h3];simp only[eV];congr 1;omega
   ·have:=h4 j (by omega);exact⟨this.1,by omega⟩
theorem xc {ops:Array Oper}{i j:Nat}{o:Oper}(hj:ops[j]? =some o)(hb:((Region.before ops).getD j 0).testBit i=true)(hback: ∀e∈o.after.toList,Region.binds .any e=true->e.on<j):
  ∃e∈o.after.toList,Region.binds .any e=true/\(i=e.on∨(e.on<j/\((Region.before ops).getD e.on 0).testBit i=true)):=by
 rw[zu]at hb⊢;obtain⟨acc',h1,h2⟩:=(nl ops.toList #[]).2 j o (by simpa using hj);simp only[G5,Ee,Ew]at h1 h2;rw[h1]at hb;rcases fold1_bit _ _ hb with h|⟨e,he,hbd,hr⟩;·simp at h
 ·refine⟨e,he,hbd,?_⟩;rcases hr with hr|hr;·exact .inl hr
  ·have hlt:=hback e he hbd;exact .inr ⟨hlt,by rw[<-(h2 e.on hlt).1];exact hr⟩
structure OkD (ops:Array Oper)(m:Nat):Prop where
 back: ∀(j:Nat) o,ops[j]? =some o->∀e∈o.after.toList,Region.binds .any e=true->e.on<j
 free: ∀(j:Nat) o,ops[j]? =some o->j<m->∀(i:Nat) oi,i<m->ops[i]? =some oi->i≠j->(∀d,oi.dst=some d->o.dst≠some d)/\∀d,oi.dst=some d->d∈o.looksAt ops->if i<j then((Region.before ops).getD j 0).testBit i=true else((Region.before ops).getD i 0).testBit j=true
 tail: ∀(j:Nat) o,ops[j]? =some o->m<=j->∀i,i<j->((Region.before ops).getD j 0).testBit i=true
theorem Ai {ops:Array Oper}{m:Nat}(h:okW ops m=true):OkD ops m:=by
 unfold okW at h;simp only[DI,DM]at h;have hj: ∀(j:Nat) o,ops[j]? =some o->_:=λj o ho=>h j (DR.1 ho).1;refine⟨?_,?_,?_⟩
 ·intro j o ho e he hb;have:=h j (DR.1 ho).1;simp only[ho,DJ,DI]at this;have h2:=this.1 e he;simp only[hb,Bool.not_true,H4]at h2;simpa[Fd]using h2
 ·intro j o ho hjm i oi him hoi hne;have:=h j (DR.1 ho).1;simp only[ho,DJ,DI,DM]at this;have h2:=this.2;rw[D4 hjm]at h2;simp only[DJ,DI,DM]at h2;have h3:=h2.2 i him;simp only[hoi,Ey,beq_iff_eq,DJ,ER,beq_eq_false_iff_ne,ne_eq]at h3;obtain⟨h4,h5⟩:=h3.resolve_left hne;refine⟨λd hd e=> ?_,λd hd hm=> ?_⟩
  ·rcases h4 with h4|h4;·rw[hd]at h4;cases h4
   ·exact h4 (hd.trans e.symm)
  rw[hd]at h5;simp only[Ey,ER,List.contains_eq_mem,decide_eq_false_iff_not]at h5;have h6:=h5.resolve_left (λh=>h hm);split;·rename_i hlt;rw[D4 hlt]at h6;exact h6
  ·rename_i hlt;rw[D2 hlt]at h6;exact h6
 ·intro j o ho hmj i hij;have:=h j (DR.1 ho).1;simp only[ho,DJ,DI,DM]at this;have h2:=this.2;rw[D2 (by omega)]at h2;simp only[DI,DM]at h2;exact h2 i hij
def sU (ops:Array Oper)(L:Array Bool):Prop:= ∀(k:Nat) o,L.getD k false=true->ops[k]? =some o->∀e∈o.after.toList,Region.binds .any e=true->L.getD e.on false=true
theorem dJ {ops:Array Oper}{m:Nat}(hok:OkD ops m){L:Array Bool}(hc:sU ops L): ∀(j:Nat) o,ops[j]? =some o->(∀e∈o.after.toList,Region.binds .any e=true->L.getD e.on false=true)->
  ∀i,((Region.before ops).getD j 0).testBit i=true->L.getD i false=true:=by
 intro j
 induction j using Nat.strongRecOn with
 |_ j ih=>
  intro o ho hl i hb;obtain⟨e,he,hbd,hr⟩:=xc ho hb (hok.back j o ho);rcases hr with rfl|⟨hlt,hb2⟩;·exact hl e he hbd
  ·have hj:j<ops.size:=(DR.1 ho).1;have hoe:ops[e.on]? =some ops[e.on]:=Dt (by omega);exact ih e.on hlt _ hoe (hc e.on _ (hl e he hbd) hoe) i hb2
theorem uK {L:Array Bool}{j k:Nat}(hj:j<L.size):(L.setIfInBounds j true).getD k false=true↔L.getD k false=true∨k=j:=by
 by_cases e:j=k;·subst e;simp[E5,hj]
 ·simp[E5,Gh,e,Ne.symm e]
theorem jG {α:Type}{p q:α->Bool}: ∀(l:List α) (x:α),(∀y,q y=true->p y=true)->x∈l->p x=true->q x=false->(l.filter q).length<(l.filter p).length
 | [],x,_,h,_,_=>by cases h
 |y::l,x,hpq,hm,hp,hq=>by
  have hle: ∀(l:List α),(l.filter q).length<=(l.filter p).length:=by
   intro l
   induction l with
   |nil=>simp
   |cons z l ih=>
    simp only[GH];cases hqz:q z with
    |true=>simp[hpq z hqz];omega
    |false=>cases hpz:p z<;>simp<;>omega
  simp only[GH];cases hm with
  |head=>rw[hp,hq];simp;have:=hle l;omega
  |tail _ hm=>
   have ih:=jG l x hpq hm hp hq;cases hqy:q y with
   |true=>simp[hpq y hqy];omega
   |false=>cases hpy:p y<;>simp<;>omega
def qx (ops:Array Oper)(L:Array Bool):Nat:=((List.range ops.size).filter λi=> !L.getD i true).length
theorem tD {ops:Array Oper}{m:Nat}(hok:OkD ops m){L:Array Bool}(hs:L.size=ops.size){i:Nat}(hi:i<ops.size)(hl:L.getD i false=false):Region.ready .any ops L≠[]:=by
 induction i using Nat.strongRecOn with
 |_ i ih=>
  by_cases h: ∃k,k<i/\L.getD k false=false
  ·obtain⟨k,hk,hlk⟩:=h;exact ih k hk (by omega) hlk
  ·have hr:i∈Region.ready .any ops L:=by
    refine mem_ready.2 ⟨?_,ops[i],Dt hi,λe he hb=> ?_⟩;·simp only[Array.getD,hs,hi,dite_true]at hl⊢;exact hl
    ·have hlt:=hok.back i ops[i] (Dt hi) e (by simpa using he) hb;cases hx:L.getD e.on false with
     |true=>rfl
     |false=>exact DU ⟨e.on,hlt,hx⟩ h
   intro hn;rw[hn]at hr;cases hr
theorem ld {ops:Array Oper}{L:Array Bool}{j:Nat}(hs:L.size=ops.size)(hj:j<ops.size)(hl:L.getD j true=false):qx ops (L.setIfInBounds j true)<qx ops L:=by
 refine jG _ j (λy hy=> ?_) (DM.2 hj) (by simp only[hl];rfl) ?_
 ·by_cases e:j=y
  ·subst e;simp[E5,hs,hj]at hy
  ·simpa[E5,Gh,e]using hy
 ·simp[E5,hs,hj]
theorem pI {P:Program}{ops:Array Oper}{Q:Exit->Act->World->Prop}{m:Nat}(hok:OkD ops m): ∀(r k:Nat),k+r=ops.size->m<=k->∀(fuel:Nat) (L:Array Bool) (a:Act) (w:World),L.size=ops.size->(∀i,L.getD i false=true↔i<k)->qx ops L<=fuel->
  wpOps P ops Q (List.range' k r) a w->wpAny P .any ops Q fuel L a w
 |0,k,hk,hm,fuel,L,a,w,hs,hL,ho,h=>by
  have hr:Region.ready .any ops L=[]:=by
   cases hr:Region.ready .any ops L with
   |nil=>rfl
   |cons j js=>
    have hj:j∈Region.ready .any ops L:=(by rw[hr];exact .head _);obtain⟨h1,o,h2,_⟩:=mem_ready.1 hj;have hlt:=(DR.1 h2).1;have:=(hL j).2 (by omega);simp only[Array.getD,hs,hlt,dite_true]at h1 this;rw[h1]at this;cases this
  have hq:Q .normal a w:=(by simpa[wpOps]using h);cases fuel with
  |zero=>exact⟨hr,hq⟩
  |succ fuel=>exact⟨λ_=>hq,λi hi=>by rw[hr]at hi;cases hi⟩
 |r+1,k,hk,hm,fuel,L,a,w,hs,hL,ho,h=>by
  have hkl:k<ops.size:=(by omega);have hun:L.getD k false=false:=by
   cases hx:L.getD k false with
   |false=>rfl
   |true=>have:=(hL k).1 hx;omega
  have hne:=tD hok hs hkl hun;have hpos:0<qx ops L:=by
   have:L.getD k true=false:=(by simp only[Array.getD,hs,hkl,dite_true]at hun⊢;exact hun);have:=ld hs hkl this;omega
  cases fuel with
  |zero=>omega
  |succ fuel=>
   refine⟨λh0=>DU h0 hne,λj hj=> ?_⟩;obtain⟨h1,o,h2,h3⟩:=mem_ready.1 hj;have hlt:=(DR.1 h2).1;have hjk:j=k:=by
    rcases Gx j k with h4|h4|h4
    ·have:=(hL j).2 h4;simp only[Array.getD,hs,hlt,dite_true]at h1 this;rw[h1]at this;cases this
    ·exact h4
    ·have hc:sU ops L:=by
      intro i oi hi hoi e he hb;have hik:=(hL i).1 hi;exact(hL e.on).2 (Nat.lt_trans (hok.back i oi hoi e he hb) hik)
     have hb:=hok.tail j o h2 (by omega) k h4;have:=dJ hok hc j o h2 (λe he hb=>h3 e (by simpa using he) hb) k hb;rw[hun]at this;cases this
   subst hjk;rw[List.range'_succ,wpOps_cons]at h;refine wpOp_mono (λa' w' h'=> ?_) h;refine pI hok r (j+1) (by omega) (by omega) fuel _ a' w' (by simp[hs]) (λi=> ?_) ?_ h';·rw[uK (by omega),hL i];omega
   ·have:=ld hs hlt h1;omega
theorem AP {K:Ctx}{ops:Array Oper}{m:Nat}(hok:OkD ops m)(hm:m<=ops.size){V0 V':EnvF}{n0 n':Nat}{rs:Nat->RecD}{W:Nat->EnvF}
  (h0:W 0=V0) (h1:W m=V') (h2:(rs 0).n=n0) (h3:(rs m).n=n') (h4: ∀i,i<m->W (i+1)=upd (W i) (rs i)/\(rs (i+1)).n=(rs i).n+(rs i).ad.length)
  (h5: ∀(i:Nat) o,i<m->ops[i]? =some o->RO K ops (W i) o (rs i)) (hbef: ∀k j q c,k<m->j<m->j<k->(rs k).wr=some (q,c)->(rs j).n<=q->q<(rs j).n+(rs j).ad.length->((Region.before ops).getD k 0).testBit j=true)
  (h6: ∀k j,k<m->j<m->k≠j->∀q c o,(rs k).wr=some (q,c)->ops[j]? =some o->eT ops k j=true∨∀x∈o.op.operands,∀sv,(W j).get x=some sv->sv.inU (· ≠q))
  (hsc: ∀s sv,V0.slot s=some sv->sv.inU (· <n0))
  {Q:Exit->Act->World->Prop} (hT: ∀a w φ,RelW K V' (· <n') φ a w->wpOps K.P ops Q (List.range' m (ops.size-m)) a w):
  ∀(fuel:Nat) (L:Array Bool) (φ:Nat->Value) (a:Act) (w:World),L.size=ops.size->(∀k,L.getD k false=true->k<m)->sU ops L->qx ops L<=fuel->
   RelW K (ov V0 rs (λk=>L.getD k false=true)) (λq=>q<n0∨∃k,L.getD k false=true/\(rs k).n<=q/\q<(rs k).n+(rs k).ad.length) φ a w->wpAny K.P .any ops Q fuel L a w:=by
 have hdst: ∀(i:Nat) o,i<m->ops[i]? =some o->o.dst=(rs i).d:=by
  intro i o hi ho;have hr:=h5 i o hi ho;generalize rs i=r at hr⊢;cases hr with
  |does _ hd _ _=>exact hd
  |skip _ hd _=>exact hd
  |sto _ hd _=>exact hd
  |app _ hd _ _=>exact hd
  |appf _ hd _ _ _=>exact hd
  |lraw _ hd _ _ _ _ _ _ _ _=>exact hd
  |cbox _ hd _ _ _=>exact hd
  |lmap _ hd _ _ _ _ _ _ _ _ _=>exact hd
 have hscope: ∀i,i<=m->∀s sv,(W i).slot s=some sv->sv.inU (· <(rs i).n):=by
  intro i
  induction i with
  |zero=>intro _ s sv h;rw[h0]at h;rw[h2];exact hsc s sv h
  |succ i ih=>
   intro hi s sv h;have hoi:ops[i]? =some (ops[i]'(by omega)):=Dt (by omega);have hr:=h5 i _ (by omega) hoi;have hprev:=ih (by omega);rw[(h4 i (by omega)).1]at h;rw[(h4 i (by omega)).2];have hup: ∀sv:SV,sv.inU (· <(rs i).n)->sv.inU (· <(rs i).n+(rs i).ad.length):=λsv h=>SV.in_mono h λq hq=>by
    show q<_;have:q<(rs i).n:=hq;omega
   generalize rs i=r at hr h hprev hup⊢;cases hr with
   | @does d n sv' ad hw hd hdl hdo=>
    simp only[upd,D6]at h;split at h
    ·obtain rfl:=D3 h;refine SV.in_mono (hdo.in_ hprev) λq hq=> ?_;rcases hq with hq|hq
     ·show q<_;have:q<n:=hq;omega
     ·exact hq.2
    ·exact hup sv (hprev s sv h)
   | @skip d n hw hd hdl=>
    simp only[upd,D6]at h;split at h
    ·obtain rfl:=D3 h;intro s hs;cases hs
    ·exact hup sv (hprev s sv h)
   | @sto n q c hw hd hdo=>
    simp[upd]at h;exact hup sv (hprev s sv h)
   | @app d n src c hw hd hdl hdo=>
    simp only[upd,D6]at h;split at h
    ·obtain rfl:=D3 h;show n<n+1;omega
    ·exact hup sv (hprev s sv h)
   | @appf d n q sz e fr rows hw hd hdl hMn hdo=>
    simp only[upd,D6]at h;split at h;·obtain rfl:=D3 h;trivial
    ·exact hup sv (hprev s sv h)
   | @lraw d n g q t x sx sv' fr cs u hw hd hdl ho hx hc hp hg hall hsv=>
    simp only[upd,D6]at h;split at h
    ·obtain rfl:=D3 h;rcases hsv with rfl|⟨_,rfl⟩<;>exact hup (.eq u q) (hprev g _ hg)
    ·exact hup sv (hprev s sv h)
   | @cbox d n g q q2 sv' ad hw hd hdl hdo hall=>
    simp only[upd,D6]at h;split at h
    ·obtain rfl:=D3 h;refine SV.in_mono (hdo.in_ (U:=(· <n))) λq hq=> ?_;rcases hq with hq|hq
     ·show q<_;have:q<n:=hq;exact Fx this (H8 _ _)
     ·exact hq.2
    ·exact hup sv (hprev s sv h)
   | @lmap d n g q m' t x i si fi fr pi b l u hw hd hdl ho hx hm' hi hp hsem hg hall=>
    simp only[upd,D6]at h;split at h
    ·obtain rfl:=D3 h;exact hup (.eq u q) (hprev g _ hg)
    ·exact hup sv (hprev s sv h)
 have hlow: ∀i q c,i<m->(rs i).wr=some (q,c)->q<(rs i).n:=by
  intro i q c hi hw;have hoi:ops[i]? =some (ops[i]'(by omega)):=Dt (by omega);have hr:=h5 i _ hi hoi;have hprev:=hscope i (by omega);generalize rs i=r at hr hw hprev⊢;cases hr with
  |does _ _ _ _=>cases hw
  |skip _ _ _=>cases hw
  |lraw _ _ _ _ _ _ _ _ _ _=>cases hw
  |cbox _ _ _ _ _=>cases hw
  |lmap _ _ _ _ _ _ _ _ _ _ _=>cases hw
  |sto _ _ hdo=>
   cases hw;cases hdo with
   |mk ho hx hq hy hp hi hsz hcc=>exact dt hprev hx
  |app _ _ _ hdo=>
   cases hdo with
   |nil _ _ _ _ _ _ _ _ _ _ _ _ _ _=>cases hw
   | @own args tys s y t e q sz fr fy rows rows2 sy inf z ho ha ht hx=>
    cases hw;exact dt hprev hx
   |call him ho ha hs=>
    cases hw;exact dt hprev hs
  |appf _ _ _ _ hdo=>
   cases hdo with
   | @own args tys s y t e q sz fr fy rows rows2 sy inf z ho ha ht hx=>
    cases hw;exact dt hprev hx
   |call him ho ha hs=>
    cases hw;exact dt hprev hs
 have hs:Sound V0 rs m:=by
  refine⟨λi j s hi hj e e2=> ?_,λi hi=>(h4 i hi).2,hlow⟩
  ·by_cases hij:i=j;·exact hij
   ·have hoi:ops[i]? =some (ops[i]'(by omega)):=Dt (by omega);have hoj:ops[j]? =some (ops[j]'(by omega)):=Dt (by omega);have:=(hok.free j _ hoj hj i _ hi hoi hij).1 s ((hdst i _ hi hoi).trans e);exact DU ((hdst j _ hj hoj).trans e2) this
 have hWi: ∀i,i<=m->W i=ov V0 rs (· <i):=xB hs h0 λi hi=>(h4 i hi).1;have hnn: ∀i,i<=m->n0<=(rs i).n:=λi hi=>(by rw[<-h2];exact hs.mono (Dz _) hi);have hinterval: ∀i,i<=m->∀q,q<(rs i).n->q<n0∨∃k,k<i/\(rs k).n<=q/\q<(rs k).n+(rs k).ad.length:=by
  intro i
  induction i with
  |zero=>intro _ q hq;rw[h2]at hq;exact .inl hq
  |succ i ih=>
   intro hi q hq;rw[(h4 i (by omega)).2]at hq;by_cases hlt:q<(rs i).n
   ·rcases ih (by omega) q hlt with h|⟨k,hk,h⟩;·exact .inl h
    ·exact .inr ⟨k,by omega,h⟩
   ·exact .inr ⟨i,by omega,by omega,hq⟩
 intro fuel
 induction fuel with
 |zero=>
  intro L φ a w hsz hLm hc ho hrel;have hall: ∀i,i<ops.size->L.getD i false=true:=by
   intro i hi;cases hx:L.getD i false with
   |true=>rfl
   |false=>
    have h1:L.getD i true=false:=(by simp only[Array.getD,hsz,hi,dite_true]at hx⊢;exact hx);have:=ld hsz hi h1;omega
  have hme:m=ops.size:=by
   rcases HC m ops.size with h|h;·exact DU (hLm m (hall m h)) (H3 _)
   ·omega
  have hL: ∀i,L.getD i false=true↔i<m:=λi=>⟨hLm i,λhi=>hall i (by omega)⟩;have hV:ov V0 rs (λk=>L.getD k false=true)=V':=(by rw[<-h1,hWi m (DL _)];exact gO hL);have hU:(λq=>q<n0∨∃k,L.getD k false=true/\(rs k).n<=q/\q<(rs k).n+(rs k).ad.length)=(· <n'):=by
   funext q;simp only[eq_iff_iff];rw[<-h3];constructor
   ·rintro(h|⟨k,hk,h⟩);·have:=hnn m (DL _);omega
    ·have:=hs.mono (i:=k+1) (j:=m) ((hL k).1 hk) (DL _);have:=hs.nn k ((hL k).1 hk);omega
   ·intro h;rcases hinterval m (DL _) q h with h|⟨k,hk,h⟩;·exact .inl h
    ·exact .inr ⟨k,(hL k).2 hk,h⟩
  rw[hV,hU]at hrel;exact pI hok (ops.size-m) m (by omega) (DL _) 0 L a w hsz hL ho (hT a w φ hrel)
 |succ fuel ih=>
  intro L φ a w hsz hLm hc ho hrel;by_cases hfull: ∀i,i<m->L.getD i false=true
  ·have hL: ∀i,L.getD i false=true↔i<m:=λi=>⟨hLm i,hfull i⟩;have hV:ov V0 rs (λk=>L.getD k false=true)=V':=(by rw[<-h1,hWi m (DL _)];exact gO hL);have hU:(λq=>q<n0∨∃k,L.getD k false=true/\(rs k).n<=q/\q<(rs k).n+(rs k).ad.length)=(· <n'):=by
    funext q;simp only[eq_iff_iff];rw[<-h3];constructor
    ·rintro(h|⟨k,hk,h⟩);·have:=hnn m (DL _);omega
     ·have:=hs.mono (i:=k+1) (j:=m) ((hL k).1 hk) (DL _);have:=hs.nn k ((hL k).1 hk);omega
    ·intro h;rcases hinterval m (DL _) q h with h|⟨k,hk,h⟩;·exact .inl h
     ·exact .inr ⟨k,(hL k).2 hk,h⟩
   rw[hV,hU]at hrel;exact pI hok (ops.size-m) m (by omega) (DL _) (fuel+1) L a w hsz hL ho (hT a w φ hrel)
  ·obtain⟨i0,hi0⟩:=Classical.not_forall.1 hfull;obtain⟨hi0m,hi0l⟩:=Classical.not_imp.1 hi0;have hi0l:L.getD i0 false=false:=by cases hx:L.getD i0 false with
    |false=>rfl
    |true=>exact DU hx hi0l
   refine⟨λhn=>DU hn (tD hok hsz (by omega) hi0l),λj hj=> ?_⟩;obtain⟨hj1,o,hjo,hj3⟩:=mem_ready.1 hj;have hj3': ∀e∈o.after.toList,Region.binds .any e=true->L.getD e.on false=true:=λe he hb=>hj3 e (by simpa using he) hb;have hjl:j<ops.size:=(DR.1 hjo).1;have hjf:L.getD j false=false:=(by simp only[Array.getD,hsz,hjl,dite_true]at hj1⊢;exact hj1);have hjm:j<m:=by
    rcases HC j m with h|h;·exact h
    ·have:=dJ hok hc j o hjo hj3' i0 (hok.tail j o hjo h i0 (by omega));rw[hi0l]at this;cases this
   have hro:=h5 j o hjm hjo;have hst:=h6;have hslot: ∀t,t∈o.looksAt ops->(ov V0 rs (λk=>L.getD k false=true)).slot t=(W j).slot t:=by
    intro t ht;rw[hWi j (by omega)];by_cases h: ∃i,i<m/\(rs i).d=some t
    ·obtain⟨i,him,hdi⟩:=h;have hoi:ops[i]? =some (ops[i]'(by omega)):=Dt (by omega);have hdst:=hdst i _ him hoi;rcases Gx i j with hij|hij|hij
     ·have hb:=(hok.free j o hjo hjm i _ him hoi (by omega)).2 t (by rw[hdst,hdi]) ht;rw[D4 hij]at hb;have hl:=dJ hok hc j o hjo hj3' i hb;rw[lc hs hLm (k:=i) hl hdi,lc hs (S:=(· <j)) (λk hk=>by omega) hij hdi]
     ·subst hij;rw[be,be]
      ·intro k hk e;have:=hs.inj k i t (by omega) him e hdi;omega
      ·intro k hk e;have:=hs.inj k i t (hLm k hk) him e hdi;subst this;rw[hjf]at hk;cases hk
     ·have hb:=(hok.free j o hjo hjm i _ him hoi (by omega)).2 t (by rw[hdst,hdi]) ht;rw[D2 (by omega)]at hb;have hil:L.getD i false=false:=by
       cases hx:L.getD i false with
       |false=>rfl
       |true=>
        have:=dJ hok hc i _ hoi (hc i _ hx hoi) j hb;rw[hjf]at this;cases this
      rw[be,be]
      ·intro k hk e;have:=hs.inj k i t (by omega) him e hdi;omega
      ·intro k hk e;have:=hs.inj k i t (hLm k hk) him e hdi;subst this;rw[hil]at hk;cases hk
    ·rw[be (λk hk e=>h ⟨k,hLm k hk,e⟩),be (λk hk e=>h ⟨k,by omega,e⟩)]
   have hordL: ∀k,k<m->k≠j->eT ops k j=true->(L.getD k false=true↔k<j):=by
    intro k hk hkj ho;have hok':ops[k]? =some (ops[k]'(by omega)):=Dt (by omega);unfold eT at ho;split at ho
    ·rename_i hlt;exact⟨λ_=>hlt,λ_=>dJ hok hc j o hjo hj3' k ho⟩
    ·rename_i hlt;refine⟨λhl=> ?_,λh=>DU h hlt⟩;have:=dJ hok hc k _ hok' (hc k _ hl hok') j ho;rw[hjf]at this;cases this
   have hag:f5 (W j) (ov V0 rs (λk=>L.getD k false=true)) o:=by
    intro x hx;have hget:(ov V0 rs (λk=>L.getD k false=true)).get x=(W j).get x:=by
     cases x with
     |tmp t=>
      refine hslot t ?_;simp only[Oper.looksAt,DT,List.mem_filterMap];exact .inl ⟨.tmp t,by simpa using hx,rfl⟩
     |const v=>rfl
     |func f=>rfl
     |global g=>rfl
    refine⟨hget,λsv hsv=> ?_⟩;have h60:sv.inU (· <(rs j).n):=dt (hscope j (by omega)) hsv;have h7:=dt (U:=λq=>q<n0∨∃k,L.getD k false=true/\(rs k).n<=q/\q<(rs k).n+(rs k).ad.length) hrel.sin (hget.trans hsv);have h10:sv.inU (λq=> ∀k c,k<m->k≠j->(rs k).wr=some (q,c)->eT ops k j=true):=by
     have one: ∀q,(∀k c,k<m->k≠j->(rs k).wr=some (q,c)->eT ops k j=true∨∀sv,(W j).get x=some sv->sv.inU (· ≠q)):=λq k c hk hkj hw=>(h6 k j hk hjm hkj q c o hw hjo).imp id λh=>h x hx;cases sv with
     |tupB ag l=>
      intro s hs';cases s with
      |ref q=>exact λk c hk hkj hw=>(one q k c hk hkj hw).elim id λh=>DU Y (h _ hsv _ hs')
      |optr q i off st=>exact λk c hk hkj hw=>(one q k c hk hkj hw).elim id λh=>DU Y (h _ hsv _ hs')
      |fref _ q=>exact λk c hk hkj hw=>(one q k c hk hkj hw).elim id λh=>DU Y (h _ hsv _ hs')
      |eq _ q=>exact λk c hk hkj hw=>(one q k c hk hkj hw).elim id λh=>DU Y (h _ hsv _ hs')
      |tupB ag l=>exact(h60 _ hs').elim
      |_=>trivial
     |ref q=>exact λk c hk hkj hw=>(one q k c hk hkj hw).elim id λh=>DU Y (h _ hsv)
     |optr q i off st=>exact λk c hk hkj hw=>(one q k c hk hkj hw).elim id λh=>DU Y (h _ hsv)
     |fref _ q=>exact λk c hk hkj hw=>(one q k c hk hkj hw).elim id λh=>DU Y (h _ hsv)
     |eq _ q=>exact λk c hk hkj hw=>(one q k c hk hkj hw).elim id λh=>DU Y (h _ hsv)
     |_=>trivial
    have key: ∀q,q<(rs j).n->(q<n0∨∃k,L.getD k false=true/\(rs k).n<=q/\q<(rs k).n+(rs k).ad.length)->(∀k c,k<m->k≠j->(rs k).wr=some (q,c)->eT ops k j=true)->(ov V0 rs (λk=>L.getD k false=true)).own q=(W j).own q:=by
     intro q hq1 hq2 hq4;rw[hWi j (by omega)];have hlast:e5 rs (λk=>L.getD k false=true) q=e5 rs (λk=>k<j) q:=by
      have:e5 rs (λk=>L.getD k false=true/\k<m) q=e5 rs (λk=>k<j/\k<m) q:=by
       refine m8 (m:=m) (λk hk=>hk.2) λk c hw=> ?_;by_cases hkm:k<m
       ·by_cases hkj:k=j;·subst hkj;simp[hjf]
        ·simp only[hkm,and_true];exact hordL k hkm hkj (hq4 k c hkm hkj hw)
       ·simp[hkm]
      have e1:(λk=>L.getD k false=true/\k<m)=(λk=>L.getD k false=true):=funext λk=>(by simp only[eq_iff_iff];exact⟨λh=>h.1,λh=>⟨h,hLm k h⟩⟩);have e2:(λk=>k<j/\k<m)=(λk=>k<j):=funext λk=>(by simp only[eq_iff_iff];omega);rw[e1,e2]at this;exact this
     rcases hq2 with hq2|⟨k,hk,hq3⟩;·rw[eL (λk hk hq=>by have:=hnn k (GV (hLm k hk));omega),eL (λk hk hq=>by have:=hnn k (by omega);omega),hlast]
     ·have hkj:k<j:=by
       rcases HC k j with h|h;·exact h
       ·have:=hs.mono h (GV (hLm k hk));omega
      rw[oL hs hLm hk hq3,oL hs (S:=(· <j)) (λk hk=>by omega) hkj hq3,hlast]
    cases sv with
    |tupB ag l=>
     intro s hs';have h8:=h60 s hs';have h9:=h7 s hs';have h11:=h10 s hs';cases s with
     |ref q=>exact key q h8 h9 h11
     |optr q i off st=>exact key q h8 h9 h11
     |fref _ q=>exact key q h8 h9 h11
     |eq _ q=>exact key q h8 h9 h11
     |tupB ag l=>exact h8
     |_=>trivial
    |ref q=>exact key q h60 h7 h10
    |optr q i off st=>exact key q h60 h7 h10
    |fref _ q=>exact key q h60 h7 h10
    |eq _ q=>exact key q h60 h7 h10
    |_=>trivial
   have hwant:wants ops (ov V0 rs (λk=>L.getD k false=true)) o=wants ops (W j) o:=by
    unfold wants;cases hg:o.guard with
    |none=>rfl
    |some g=>
     obtain⟨gi,want⟩:=g;simp only[];cases hoj:ops[gi]? with
     |none=>rfl
     |some oj=>
      simp only[];cases hdj:oj.dst with
      |none=>rfl
      |some dg=>
       simp only[];rw[hslot dg (by simp[Oper.looksAt,hg,hoj,hdj])]
   have hS': ∀k,(L.setIfInBounds j true).getD k false=true↔(L.getD k false=true∨k=j):=λk=>uK (by omega);have hmaxj: ∀q c k c',(rs j).wr=some (q,c)->L.getD k false=true->(rs k).wr=some (q,c')->k<j:=by
    intro q c k c' hwj hk hwk;have hkm:=hLm k hk;have hkj:k≠j:=λe=>(by subst e;rw[hjf]at hk;cases hk);have hord:eT ops k j=true:=by
     refine(h6 k j hkm hjm hkj q c' o hwk hjo).elim id λh=> ?_;have hr:=hro;generalize rs j=r at hr hwj;cases hr with
     |does _ _ _ _=>cases hwj
     |skip _ _ _=>cases hwj
     |lraw _ _ _ _ _ _ _ _ _ _=>cases hwj
     |cbox _ _ _ _ _=>cases hwj
     |lmap _ _ _ _ _ _ _ _ _ _ _=>cases hwj
     |sto _ _ hdo=>
      cases hwj;cases hdo with
      |mk ho hx hq hy hp hi hsz hcc=>exact DU Y (h _ (by rw[ho];simp[Op.operands]) _ hx)
     |app _ _ _ hdo=>
      cases hdo with
      |nil _ _ _ _ _ _ _ _ _ _ _ _ _ _=>cases hwj
      | @own args tys s y t e q sz fr fy rows rows2 sy inf z ho ha ht hx=>
       cases hwj;exact DU Y (h s (by rw[ho];have:s∈args.toList:=(by rw[ha];exact .head _);simp[Op.operands,Call.operands];simpa using this) _ hx)
      | @call args tys x s y1 y2 f fx f1 f2 fr p1 p2 e q sz rows rows' him ho ha hs=>
       cases hwj;exact DU Y (h s (by rw[ho];have:s∈args.toList:=(by rw[ha];exact .head _);simp[Op.operands,Call.operands];exact .inr (by simpa using this)) _ hs)
     |appf _ _ _ _ hdo=>
      cases hdo with
      | @own args tys s y t e q sz fr fy rows rows2 sy inf z ho ha ht hx=>
       cases hwj;exact DU Y (h s (by rw[ho];have:s∈args.toList:=(by rw[ha];exact .head _);simp[Op.operands,Call.operands];simpa using this) _ hx)
      | @call args tys x s y1 y2 f fx f1 f2 fr p1 p2 e q sz rows rows' him ho ha hs=>
       cases hwj;exact DU Y (h s (by rw[ho];have:s∈args.toList:=(by rw[ha];exact .head _);simp[Op.operands,Call.operands];exact .inr (by simpa using this)) _ hs)
    exact(hordL k hkm hkj hord).1 hk
   have hov:ov V0 rs (λk=>(L.setIfInBounds j true).getD k false=true)=upd (ov V0 rs (λk=>L.getD k false=true)) (rs j):=by
    rw[<-z8 hs hLm hjm (by rw[hjf];simp) hmaxj λk q c hk hw hr=>by
     have hkm:=hLm k hk;have hkj:j<k:=by
      rcases HC j k with h|h;·exact h
      ·have:=hs.mono h (GV hjm);have:=hlow k q c hkm hw;omega
     have hok':ops[k]? =some (ops[k]'(by omega)):=Dt (by omega);have:=dJ hok hc k _ hok' (hc k _ hk hok') j (hbef k j q c hkm hjm hkj hw hr.1 hr.2);rw[hjf]at this;cases this]
    exact gO hS'
   have hc':sU ops (L.setIfInBounds j true):=by
    intro k ok hk hok' e he hb;rcases (hS' k).1 hk with hk|rfl;·exact(hS' _).2 (.inl (hc k ok hk hok' e he hb))
    ·rw[hjo]at hok';obtain rfl:=D3 hok';exact(hS' _).2 (.inl (hj3' e he hb))
   have hnext: ∀φ' a' w',RelW K (upd (ov V0 rs (λk=>L.getD k false=true)) (rs j)) (em (λq=>q<n0∨∃k,L.getD k false=true/\(rs k).n<=q/\q<(rs k).n+(rs k).ad.length) (rs j).n (rs j).ad) φ' a' w'->
     wpAny K.P .any ops Q fuel (L.setIfInBounds j true) a' w':=by
    intro φ' a' w' hr;refine ih _ φ' a' w' (by simp[hsz]) (λk hk=>((hS' k).1 hk).elim (hLm k) (λe=>e▸hjm)) hc' ?_ ?_;·have:=ld hsz hjl hj1;omega
    ·rw[hov];have hU:(λq=>q<n0∨∃k,(L.setIfInBounds j true).getD k false=true/\(rs k).n<=q/\q<(rs k).n+(rs k).ad.length)=em (λq=>q<n0∨∃k,L.getD k false=true/\(rs k).n<=q/\q<(rs k).n+(rs k).ad.length) (rs j).n (rs j).ad:=by
      funext q;simp only[em,eq_iff_iff];constructor
      ·rintro(h|⟨k,hk,h⟩);·exact .inl (.inl h)
       ·rcases (hS' k).1 hk with hk|rfl;·exact .inl (.inr ⟨k,hk,h⟩)
        ·exact .inr h
      ·rintro((h|⟨k,hk,h⟩)|h);·exact .inl h
       ·exact .inr ⟨k,(hS' k).2 (.inl hk),h⟩
       ·exact .inr ⟨j,(hS' j).2 (.inr Y),h⟩
     rw[hU];exact hr
   unfold wpOp;simp only[hjo];have hfresh: ∀q,(rs j).n<=q->q<(rs j).n+(rs j).ad.length->¬(q<n0∨∃k,L.getD k false=true/\(rs k).n<=q/\q<(rs k).n+(rs k).ad.length):=by
    intro q hq1 hq2 hq3;rcases hq3 with hq3|⟨k,hk,hq3⟩;·have:=hnn j (by omega);omega
    ·have:=hs.dis (hLm k hk) hjm hq3 ⟨hq1,hq2⟩;subst this;rw[hjf]at hk;cases hk
   generalize rs j=r at hro hnext hfresh;cases hro with
   | @does d n sv ad hw hd hdl hdo=>
    rw[aE hrel (hwant.trans hw),D4 Y];refine .inl ((hdo.congr hag).sound hrel (λq hq1 hq2 hq3=>hfresh q hq1 hq2 hq3) λv w' φ' hr1 hr2 hr3=> ?_);refine hnext φ' _ _ ?_;rw[hd];exact hr1.put hdl hr2 hr3 Y (λs sv' hsv=>by
     simp only[upd,D6]at hsv;split at hsv;·rename_i e;exact .inl ⟨e.symm,(D3 hsv).symm⟩
     ·rename_i e;exact .inr ⟨Ne.symm e,hsv⟩)
   | @skip d n hw hd hdl=>
    rw[aE hrel (hwant.trans hw),D2 (by simp)];refine hnext φ _ _ ?_;rw[hd];have hput:=hrel.put (V':=upd (ov V0 rs (λk=>L.getD k false=true)) ⟨some d,.tup [],[],n,none⟩) hdl (v:=undef) (sv:= .tup []) ⟨[],rfl,.nil⟩ (by intro s hs;cases hs) (by
     funext q;exact bX _ _ _) (λs sv' hsv'=>by
      simp only[upd,D6]at hsv';split at hsv';·rename_i e;exact .inl ⟨e.symm,(D3 hsv').symm⟩
      ·rename_i e;exact .inr ⟨Ne.symm e,hsv'⟩)
    rw[e6];exact hput
   | @sto n q c hw hd hdo=>
    rw[aE hrel (hwant.trans hw),D4 Y];cases hdo.congr hag with
    |mk ho hx hq hy hp hi hsz hcc=>
     refine .inl (mS hrel ho hx hq hy hp hi hsz hcc λw' hr1=> ?_);rw[hd];refine hnext φ _ _ ?_;rw[e6];have e:upd (ov V0 rs (λk=>L.getD k false=true)) ⟨none,.nilsl,[],n,some (q,some c)⟩=⟨(ov V0 rs (λk=>L.getD k false=true)).slot,λj=>if j=q then some c else(ov V0 rs (λk=>L.getD k false=true)).own j⟩:=by
      refine EnvF.ext (λs=>by simp[upd]) (λo=> ?_);simp only[upd];split;·rfl
      ·exact bX _ _ _
     rw[e];exact hr1
   | @app d n src c hw hd hdl hdo=>
    rw[aE hrel (hwant.trans hw),D4 Y];have hn: ¬(n<n0∨∃k,L.getD k false=true/\(rs k).n<=n/\n<(rs k).n+(rs k).ad.length):=hfresh n (DL _) (by show n<n+1;omega);have fin: ∀φ' w',RelW K ⟨(ov V0 rs (λk=>L.getD k false=true)).slot,aw (ov V0 rs (λk=>L.getD k false=true)).own src n c⟩ (λi=>(i<n0∨∃k,L.getD k false=true/\(rs k).n<=i/\i<(rs k).n+(rs k).ad.length)∨i=n) φ' a w'->(∀q,src=some q->q≠n)->
      wpAny K.P .any ops Q fuel (L.setIfInBounds j true) (a.put o.dst (φ' n)) w':=by
     intro φ' w' hr1 hqn;refine hnext φ' _ _ ?_;rw[hd];have hU:em (λq=>q<n0∨∃k,L.getD k false=true/\(rs k).n<=q/\q<(rs k).n+(rs k).ad.length) n [c]=λi=>(i<n0∨∃k,L.getD k false=true/\(rs k).n<=i/\i<(rs k).n+(rs k).ad.length)∨i=n:=by
      funext i;simp only[em,EW,eq_iff_iff];exact or_congr Iff.rfl (by omega)
     rw[hU];have ho:(upd (ov V0 rs (λk=>L.getD k false=true)) ⟨some d,.ref n,[c],n,src.map λq=>(q,none)⟩).own=aw (ov V0 rs (λk=>L.getD k false=true)).own src n c:=by
      funext i;have hadd:cq (ov V0 rs (λk=>L.getD k false=true)).own n [c] i=if i=n then some c else(ov V0 rs (λk=>L.getD k false=true)).own i:=by
       simp only[cq,EW];by_cases e:i=n;·subst e;rw[D4 (by omega),D4 Y];simp
       ·rw[D2 (by omega),D2 e]
      cases src with
      |none=>simp only[upd,FN,aw,hadd];rfl
      |some q=>
       have hne:=hqn q Y;simp only[upd,EG,aw,hadd,D6];by_cases e:i=n;·subst e;rw[D2 (Ne.symm hne),D4 Y,D4 Y]
       ·rw[D2 e,D2 e];by_cases e2:i=q;·rw[D4 e2,D4 e2.symm]
        ·rw[D2 e2,D2 (Ne.symm e2)]
     exact hr1.put hdl (sv:= .ref n) Y (.inr Y) ho (λs sv' hsv=>by
      simp only[upd,D6]at hsv;split at hsv;·rename_i e;exact .inl ⟨e.symm,(D3 hsv).symm⟩
      ·rename_i e;exact .inr ⟨Ne.symm e,hsv⟩)
    cases hdo.congr hag with
    | @own args tys s y t e q sz fr fy rows rows2 sy inf z ho ha ht hx hq hy hp hu hi hsz hz hzs h0 hb1 hl2 hby=>
     have h63:rows.length+rows2.length<=maxLen:=by
      have:(rows.length+rows2.length)*1<=(rows.length+rows2.length)*inf.bytes:=Gl _ hb1;have:maxLen=2 ^ 63-1:=rfl;omega
     refine .inl (ej hrel ho ha ht (.inl ⟨q,rfl,hx,hq⟩) hy hp hu hi hsz hz hzs h0 hl2 h63 hby hn λv w' φ' hr1 hv=> ?_);rw[hv];exact fin φ' w' hr1 λq' e=>by
      cases e;intro e;subst e;exact hn (hrel.inU _ _ hq)
    | @nil args tys s y t e fy rows2 sy inf z ho ha ht hx hy hp hu hi hz hzs h0 hb1 hl2 hby=>
     have h63:rows2.length<=maxLen:=by
      have:rows2.length*1<=rows2.length*inf.bytes:=Gl _ hb1;have:maxLen=2 ^ 63-1:=rfl;omega
     refine .inl (ej hrel ho ha ht (.inr ⟨rfl,hx,rfl,rfl⟩) hy hp hu hi Y hz hzs h0 hl2 (by simpa using h63) (by simpa using hby) hn λv w' φ' hr1 hv=> ?_);rw[hv];exact fin φ' w' (by simpa using hr1) λq' e=>by cases e
    | @call args tys x s y1 y2 f fx f1 f2 fr p1 p2 e q sz rows rows' him ho ha hs hx hq h1 h2 hspec=>
     refine .inl (nh hrel ho ha hs hx hq h1 h2 hspec hn λv w' φ' hr1 hv=> ?_);rw[hv];exact fin φ' w' hr1 λq' e=>by
      cases e;intro e;subst e;exact hn (hrel.inU _ _ hq)
   | @appf d n q sz e frA rowsA hw hd hdl hMn hdo=>
    rw[aE hrel (hwant.trans hw),D4 Y];obtain⟨n2,hn2⟩: ∃n2,¬(n2<n0∨∃k,L.getD k false=true/\(rs k).n<=n2/\n2<(rs k).n+(rs k).ad.length):=by
     refine⟨(rs m).n,?_⟩;rintro(h|⟨k,hk,h⟩);·have:=hnn m (DL _);omega
     ·have:=hs.mono (i:=k+1) (j:=m) (hLm k hk) (DL _);have:=hs.nn k (hLm k hk);omega
    cases hdo.congr hag with
    | @own args tys s y t e q sz fr1 fy rows1 rows2 sy inf z ho ha ht hx hq hy hp hu hi hsz hz hzs h0 hb1 hl2 hby=>
     have h63:rows1.length+rows2.length<=maxLen:=by
      have:(rows1.length+rows2.length)*1<=(rows1.length+rows2.length)*inf.bytes:=Gl _ hb1;have:maxLen=2 ^ 63-1:=rfl;omega
     refine .inl (ej hrel ho ha ht (.inl ⟨q,rfl,hx,hq⟩) hy hp hu hi hsz hz hzs h0 hl2 h63 hby hn2 λv w' φ' hr1 hv=> ?_);obtain⟨hr2,hrep⟩:=hr1.frzN hMn hn2 hrel.sin hrel.inU;rw[hv];refine hnext φ' _ _ ?_;rw[hd,e6];have hown:(upd (ov V0 rs (λk=>L.getD k false=true)) ⟨some d,.val (fr1&&fy) (.sl (rows1++rows2)),[],n,some (q,none)⟩).own=λi=>if some q=some i then none else(ov V0 rs (λk=>L.getD k false=true)).own i:=by
      funext i;simp only[upd,D6];by_cases e2:i=q;·rw[D4 e2,D4 e2.symm]
      ·rw[D2 e2,D2 (Ne.symm e2)];exact bX _ _ _
     exact hr2.put hdl (sv:= .val (fr1&&fy) (.sl (rows1++rows2))) hrep trivial hown (λs sv' hsv=>by
      simp only[upd,D6]at hsv;split at hsv;·rename_i e;exact .inl ⟨e.symm,(D3 hsv).symm⟩
      ·rename_i e;exact .inr ⟨Ne.symm e,hsv⟩)
    | @call args tys x s y1 y2 f fx f1 f2 fr1 p1 p2 e q sz rows rows' him ho ha hs hx hq h1 h2 hspec=>
     refine .inl (nh hrel ho ha hs hx hq h1 h2 hspec hn2 λv w' φ' hr1 hv=> ?_);obtain⟨hr2,hrep⟩:=hr1.frzN hMn hn2 hrel.sin hrel.inU;rw[hv];refine hnext φ' _ _ ?_;rw[hd,e6];have hown:(upd (ov V0 rs (λk=>L.getD k false=true)) ⟨some d,.val frA (.sl rowsA),[],n,some (q,none)⟩).own=λi=>if some q=some i then none else(ov V0 rs (λk=>L.getD k false=true)).own i:=by
      funext i;simp only[upd,D6];by_cases e2:i=q;·rw[D4 e2,D4 e2.symm]
      ·rw[D2 e2,D2 (Ne.symm e2)];exact bX _ _ _
     exact hr2.put hdl (sv:= .val frA (.sl rowsA)) hrep trivial hown (λs sv' hsv=>by
      simp only[upd,D6]at hsv;split at hsv;·rename_i e;exact .inl ⟨e.symm,(D3 hsv).symm⟩
      ·rename_i e;exact .inr ⟨Ne.symm e,hsv⟩)
   | @lraw d n g q t x sx sv' fr cs u hw hd hdl ho hx hc hp hg hall hsv=>
    rw[aE hrel (hwant.trans hw),D4 Y];have hgs:(ov V0 rs (λk=>L.getD k false=true)).slot g=some (.eq u q):=by
     have hnw: ∀k,k<m->(rs k).d≠some g:=by
      intro k hk e;have hok':ops[k]? =some (ops[k]'(by omega)):=Dt (by omega);have h6:=hdst k _ hk hok';have:=DI.1 hall _ (D7 (i:=k) (by rw[Eo];exact hok'));rw[h6,e]at this;simp at this
     rw[be λk hk=>hnw k (hLm k hk)];rw[hWi j (by omega),be λk hk=>hnw k (by omega)]at hg;exact hg
    have hev:ev K.P (W j) o=some (.val true (.raw u)):=(by simp only[ev,ho,hx,hc,hp,EG,mkv]);rw[<-uT hag]at hev;obtain⟨v,hrun,hv,_⟩:=uS hrel hev;have hv:Rep w _ v (.raw u):=hv;have hvu:v=u:=(by cases hv;rfl);subst hvu;obtain⟨v2,hv2,hr2⟩:=hrel.slot g _ hgs;refine .inl ?_;unfold Oper.wp;rw[hrun];refine hnext φ _ _ ?_;rw[hd,e6];have hr2:φ q=v:=hr2;have hslv:aU w (Zf K (ov V0 rs (λk=>L.getD k false=true)) φ) φ v sv':=by
     rcases hsv with rfl|⟨⟨b,hb⟩,rfl⟩;·exact hr2.symm
     ·exact⟨b,by rw[hr2,hb];rfl,hb⟩
    exact hrel.put hdl (sv:=sv') hslv (by rcases hsv with rfl|⟨_,rfl⟩<;>exact(show(SV.eq v q).inU _ from hrel.sin g _ hgs)) (by funext i;exact bX _ _ _) (λs sv' hsv=>by
     simp only[upd,D6]at hsv;split at hsv;·rename_i e;exact .inl ⟨e.symm,(D3 hsv).symm⟩
     ·rename_i e;exact .inr ⟨Ne.symm e,hsv⟩)
   | @cbox d n g q q2 sv ad hw hd hdl hdo hall=>
    rw[aE hrel (hwant.trans hw),D4 Y];have hops: ∀k,k<m->∃o',ops[k]? =some o'/\o'.dst≠some g/\l5 (W j) ops q2 o'.op=true/\lE o'.op=false:=by
     intro k hk;have hok':ops[k]? =some (ops[k]'(by omega)):=Dt (by omega);have:=DI.1 hall _ (D7 (i:=k) (by rw[Eo];exact hok'));simp only[DJ,bne_iff_ne,ne_eq,ER]at this;exact⟨_,hok',this.1.1,this.1.2,this.2⟩
    have hnw: ∀k,k<m->(rs k).d≠some g:=by
     intro k hk e;obtain⟨o',h1,h2,_⟩:=hops k hk;exact h2 ((hdst k _ hk h1).trans e)
    have hnwr: ∀k,k<m->∀c,(rs k).wr≠some (q2,c):=by
     intro k hk c hwc;obtain⟨o',h1,_,h3,h4⟩:=hops k hk;have hr:=h5 k o' hk h1;generalize rs k=r at hr hwc;cases hr with
     |sto _ _ hdo=>cases hdo with
      | @mk t x y i off st c0 sy fp p inf ho hx=>
       cases hwc;rw[ho]at h3;cases x with
       |tmp s=>
        simp only[l5,DJ]at h3;have hns: ∀i,i<m->(rs i).d≠some s:=λi hi e=>by
         have hoi:ops[i]? =some (ops[i]'(by omega)):=Dt (by omega);have:=DI.1 h3.2 _ (D7 (i:=i) (by rw[Eo];exact hoi));simp only[bne_iff_ne,ne_eq]at this;exact this ((hdst i _ hi hoi).trans e)
        have e1:(W k).slot s=(W j).slot s:=(by rw[hWi k (by omega),hWi j (by omega),be λi hi=>hns i (by omega),be λi hi=>hns i (by omega)]);have hx:(W k).slot s=some (.optr q2 i off st):=hx;rw[<-e1,hx]at h3;simp at h3
       |_=>simp[l5]at h3
     |app _ _ _ hdo=>cases hdo with
      |own ho=>rw[ho]at h4;cases h4
      |nil ho=>rw[ho]at h4;cases h4
      |call him=>rw[him]at h4;cases h4
     |appf _ _ _ _ hdo=>cases hdo with
      |own ho=>rw[ho]at h4;cases h4
      |call him=>rw[him]at h4;cases h4
     |_=>cases hwc
    have hgj:(W j).slot g=V0.slot g:=(by rw[hWi j (by omega),be λk hk=>hnw k (by omega)]);have hgs:(ov V0 rs (λk=>L.getD k false=true)).slot g=(W j).slot g:=(by rw[hgj,be λk hk=>hnw k (hLm k hk)]);have hq2:q2<n0:=by
     cases hdo with
     |mk ho hx0 hax hbx hbo hbg hbq hspec=>
      rw[hgj]at hbg;exact hsc g _ hbg
     |agg ho hx0 hax hbx hps hbg hbq hspec=>
      rw[hgj]at hbg;exact hsc g _ hbg
    have hown2:(ov V0 rs (λk=>L.getD k false=true)).own q2=(W j).own q2:=by
     rw[hWi j (by omega),eL (λk hk hq=>by have:=hnn k (GV (hLm k hk));omega),eL (λk hk hq=>by have:=hnn k (by omega);omega),gT (λk c hk=>hnwr k (hLm k hk) c),gT (λk c hk=>hnwr k (by omega) c)]
    refine .inl ((hdo.congr hag hgs hown2).sound hrel (λq hq1 hq2 hq3=>hfresh q hq1 hq2 hq3) λv w' φ' hr1 hr2 hr3=> ?_);refine hnext φ' _ _ ?_;rw[hd];exact hr1.put hdl hr2 hr3 Y (λs sv' hsv=>by
     simp only[upd,D6]at hsv;split at hsv;·rename_i e;exact .inl ⟨e.symm,(D3 hsv).symm⟩
     ·rename_i e;exact .inr ⟨Ne.symm e,hsv⟩)
   | @lmap d n g q m' t x i si fi fr pi b l u hw hd hdl ho hx hm' hi hp hsem hg hall=>
    rw[aE hrel (hwant.trans hw),D4 Y];have hgs:(ov V0 rs (λk=>L.getD k false=true)).slot g=some (.eq u q):=by
     have hnw: ∀k,k<m->(rs k).d≠some g:=by
      intro k hk e;have hok':ops[k]? =some (ops[k]'(by omega)):=Dt (by omega);have h6:=hdst k _ hk hok';have:=DI.1 hall _ (D7 (i:=k) (by rw[Eo];exact hok'));rw[h6,e]at this;simp at this
     rw[be λk hk=>hnw k (hLm k hk)];rw[hWi j (by omega),be λk hk=>hnw k (by omega)]at hg;exact hg
    have hag':=hag;unfold f5 at hag';rw[ho]at hag';obtain⟨a1,a2⟩:=hag' x (by simp[Op.operands]);obtain⟨b1,_⟩:=hag' i (by simp[Op.operands]);have hx':=a1.trans hx;have hm2:=(a2 _ hx).trans hm';have hi':=b1.trans hi;obtain⟨hrx,_⟩:=ae hrel hx';have hrx:a.eval x=φ m':=hrx;have hri:=bC hrel hi' hp;have hrun:=hsem a w _ (by rw[hrx];exact hrel.own m' _ hm2) hri;obtain⟨v2,hv2,hr2⟩:=hrel.slot g _ hgs;refine .inl ?_;unfold Oper.wp;rw[hrun];refine hnext φ _ _ ?_;rw[hd,e6];exact hrel.put hdl (sv:= .ref q) hr2.symm (show(SV.eq u q).inU _ from hrel.sin g _ hgs) (by funext i;exact bX _ _ _) (λs sv' hsv=>by
     simp only[upd,D6]at hsv;split at hsv;·rename_i e;exact .inl ⟨e.symm,(D3 hsv).symm⟩
     ·rename_i e;exact .inr ⟨Ne.symm e,hsv⟩)
structure J (K:Ctx)(ops:Array Oper)(dr:Bool)(l:List Oper)(E:St)(R:St->Prop):Prop where
 out:match dr with
  |false=>TO K ops l E R
  |true=> ∃E':St,TD K ops l E.f E.nx E'.f E'.nx/\R E'
section
variable {K:Ctx}{ops:Array Oper}{dr:Bool}{o:Oper}{rest:List Oper}{sl:List (Nat×SV)}{ow:List (Nat×Option Own)}{nx:Nat}{R:St->Prop}{E E':St}{d:Nat}{sv:SV}
theorem J.nil (h:R E):J K ops dr [] E R:=by
 cases dr with
 |false=>exact⟨TO.nil h⟩
 |true=>exact⟨E,.nil,h⟩
theorem wQ (sl:List (Nat×SV))(ow:List (Nat×Option Own))(nx m:Nat)(adds:List Own):(St.mk ((d,sv)::sl) (cw nx adds ow) m).f=⟨λs=>if s=d then some sv else(St.mk sl ow nx).f.slot s,cq (St.mk sl ow nx).f.own nx adds⟩:=by
 refine EnvF.ext (λs=> ?_) (λq=> ?_)
 ·simp only[St.f,ai];by_cases e:d=s;·rw[D4 e,D4 e.symm]
  ·rw[D2 e,D2 (Ne.symm e)]
 ·exact r5 ow adds nx q
theorem J.does {adds:List Own}(hg:wants ops (St.mk sl ow nx).f o=some true)(hd:o.dst=some d)(hlt:K.can d=true)(h:Does K (St.mk sl ow nx).f nx o sv adds)(k:J K ops dr rest ⟨(d,sv)::sl,cw nx adds ow,nx+adds.length⟩ R):J K ops dr (o::rest) ⟨sl,ow,nx⟩ R:=by
 cases dr with
 |false=>exact⟨TO.does hg hd hlt h k.out⟩
 |true=>
  obtain⟨E',h1,h2⟩:=k.out;refine⟨E',.does hg hd hlt h (wQ sl ow nx (nx+adds.length) adds) h1,h2⟩
theorem J.skip (hg:wants ops (St.mk sl ow nx).f o=some false)(hd:o.dst=some d)(hlt:K.can d=true)(k:J K ops dr rest ⟨(d,.tup [])::sl,ow,nx⟩ R):J K ops dr (o::rest) ⟨sl,ow,nx⟩ R:=by
 cases dr with
 |false=>exact⟨TO.skip hg hd hlt k.out⟩
 |true=>
  obtain⟨E',h1,h2⟩:=k.out;refine⟨E',.skip hg hd hlt ?_ h1,h2⟩;refine EnvF.ext (λs=> ?_) (λq=>rfl);simp only[St.f,ai];by_cases e:d=s;·rw[D4 e,D4 e.symm]
  ·rw[D2 e,D2 (Ne.symm e)]
theorem J.gb {b:Bool}{j dj:Nat}{want f:Bool}(hg:o.guard=some (j,want))(hj:(ops[j]?).bind (·.dst)=some dj)(hs:lk sl dj=some (.val f (.bool b)))
  (kt:b=true->J K ops dr (o::rest) ⟨(dj,.val f (.bool true))::sl,ow,nx⟩ R) (kf:b=false->J K ops dr (o::rest) ⟨(dj,.val f (.bool false))::sl,ow,nx⟩ R):J K ops dr (o::rest) ⟨sl,ow,nx⟩ R:=by
 have hf: ∀b',b=b'->(St.mk ((dj,.val f (.bool b'))::sl) ow nx).f=(St.mk sl ow nx).f:=by
  rintro b' rfl;refine EnvF.ext (λs=> ?_) (λq=>rfl);simp only[St.f,ai];by_cases e:dj=s;·subst e;rw[D4 Y,hs]
  ·rw[D2 e]
 have key: ∀b',b=b'->J K ops dr (o::rest) ⟨(dj,.val f (.bool b'))::sl,ow,nx⟩ R->J K ops dr (o::rest) ⟨sl,ow,nx⟩ R:=by
  intro b' e h;cases dr with
  |false=>
   refine⟨TO.sub (λa w hr=> ?_) h.out⟩;obtain⟨φ,hφ⟩:=hr;exact⟨φ,by rw[hf b' e];exact hφ⟩
  |true=>
   obtain⟨E',h1,h2⟩:=h.out;refine⟨E',?_,h2⟩;have h1':TD K ops (o::rest) (St.mk ((dj,.val f (.bool b'))::sl) ow nx).f nx E'.f E'.nx:=h1;rw[hf b' e]at h1';exact h1'
 cases b with
 |true=>exact key true rfl (kt rfl)
 |false=>exact key false rfl (kf rfl)
theorem J.g {p:Prop}[Decidable p]{j dj:Nat}{want f:Bool}(hg:o.guard=some (j,want))(hj:(ops[j]?).bind (·.dst)=some dj)(hs:lk sl dj=some (.val f (.bool (decide p))))
  (kt:p->J K ops dr (o::rest) ⟨(dj,.val f (.bool true))::sl,ow,nx⟩ R) (kf: ¬p->J K ops dr (o::rest) ⟨(dj,.val f (.bool false))::sl,ow,nx⟩ R):J K ops dr (o::rest) ⟨sl,ow,nx⟩ R:=
 J.gb hg hj hs (λh=>kt (EL h)) (λh=>kf (of_decide_eq_false h))
theorem J.e (hg:wants ops (St.mk sl ow nx).f o=some true)(hd:o.dst=some d)(hlt:K.can d=true)(he:ev K.P (St.mk sl ow nx).f o=some sv)(k:J K ops dr rest ⟨(d,sv)::sl,ow,nx⟩ R):J K ops dr (o::rest) ⟨sl,ow,nx⟩ R:=
 .does hg hd hlt (.ev he) k
theorem J.i {t:TypeId}{x i:Operand}{sx:SV}{fr fi:Bool}{rows:List (List PV)}{r:List PV}{k:IntKind}{m:Int}{e:TypeId}{inf:TypeInfo}(ho:o.op= .indexAddr t x i)(hg:wants ops (St.mk sl ow nx).f o=some true)(hd:o.dst=some d)(hlt:K.can d=true)
  (hx:(St.mk sl ow nx).f.get x=some sx) (hr:sx.ff=some (fr,.sl rows)) (hi:(St.mk sl ow nx).f.get i=some (.val fi (.int k m))) (hu:K.P.underlying t=some (.slice e)) (hinf:K.P.info? e=some inf)
  (h0:0<=m) (hrow:rows[m.toNat]? =some r) (hl:r.length=inf.size) (q:J K ops dr rest ⟨(d,.fptr fr r)::sl,ow,nx⟩ R):J K ops dr (o::rest) ⟨sl,ow,nx⟩ R:=
 .does hg hd hlt (.idxf ho hx hr hi hu hinf h0 hrow hl) q
theorem J.io {t:TypeId}{x i:Operand}{p:Nat}{fr fi:Bool}{rows:List (List PV)}{k:IntKind}{m:Int}{e' e:TypeId}{sz:Nat}{inf:TypeInfo}(ho:o.op= .indexAddr t x i)(hg:wants ops (St.mk sl ow nx).f o=some true)(hd:o.dst=some d)(hlt:K.can d=true)
  (hx:(St.mk sl ow nx).f.get x=some (.ref p)) (hp:(St.mk sl ow nx).f.own p=some (.sl e' sz fr rows)) (hi:(St.mk sl ow nx).f.get i=some (.val fi (.int k m))) (hu:K.P.underlying t=some (.slice e)) (hinf:K.P.info? e=some inf)
  (h0:0<=m) (hm:m.toNat<rows.length) (hl:inf.size=sz) (q:J K ops dr rest ⟨(d,.optr p m.toNat 0 sz)::sl,ow,nx⟩ R):J K ops dr (o::rest) ⟨sl,ow,nx⟩ R:=
 .does hg hd hlt (.idxo ho hx hp hi hu hinf h0 hm hl) q
theorem J.s {t:TypeId}{x:Operand}{lo hi:Option Operand}{sx:SV}{fr fl fh:Bool}{rows:List (List PV)}{e:TypeId}{inf:TypeInfo}{l h:Int}{kl kh:IntKind}(ho:o.op= .slice t x lo hi none)(hg:wants ops (St.mk sl ow nx).f o=some true)(hd:o.dst=some d)(hlt:K.can d=true)
  (hx:(St.mk sl ow nx).f.get x=some sx) (hr:sx.ff=some (fr,.sl rows)) (hu:K.P.underlying t=some (.slice e)) (hinf:K.P.info? e=some inf) (hlo:lo=none/\l=0∨∃y,lo=some y/\(St.mk sl ow nx).f.get y=some (.val fl (.int kl l)))
  (hhi:hi=none/\h=rows.length∨∃y,hi=some y/\(St.mk sl ow nx).f.get y=some (.val fh (.int kh h))) (h0:0<=l) (h1:l<=h) (h2:h<=rows.length) (h3: ∀r∈rows,r.length=inf.size)
  (q:J K ops dr rest ⟨(d,.val fr (.sl ((rows.take h.toNat).drop l.toNat)))::sl,ow,nx⟩ R):J K ops dr (o::rest) ⟨sl,ow,nx⟩ R:=
 .does hg hd hlt (.slf ho hx hr hu hinf hlo hhi h0 h1 h2 h3) q
theorem J.bx {t:TypeId}{x:Operand}{sx:SV}{fr:Bool}{p:PV}(ho:o.op= .box t x)(hg:wants ops (St.mk sl ow nx).f o=some true)(hd:o.dst=some d)(hlt:K.can d=true)(hx:(St.mk sl ow nx).f.get x=some sx)(hp:sx.ff=some (fr,p))
  (q:J K ops dr rest ⟨(d,.optr nx 0 0 0)::sl,(nx,some (.box fr p.cells))::ow,nx+1⟩ R):J K ops dr (o::rest) ⟨sl,ow,nx⟩ R:=
 .does hg hd hlt (.box ho hx hp) q
theorem J.bv {t e:TypeId}{len:Nat}{fr:Bool}{parts:Array (Nat×Operand)}{rows:List (List PV)}{inf:TypeInfo}{z:Value}(ho:o.op= .buildSlice t len parts)(hg:wants ops (St.mk sl ow nx).f o=some true)(hd:o.dst=some d)(hlt:K.can d=true)
  (hu:K.P.underlying t=some (.slice e)) (hinf:K.P.info? e=some inf) (hz:inf.zero=some z) (hzs:z.cells.size=inf.size) (hr:c5 (St.mk sl ow nx).f inf.size 0 parts.toList=some (fr,rows)) (hl:rows.length=len) (hm:Nat.ble (len*inf.size) 16777216=true) (hm2:Nat.ble len 16777216=true)
  (q:J K ops dr rest ⟨(d,.val fr (.sl rows))::sl,ow,nx⟩ R):J K ops dr (o::rest) ⟨sl,ow,nx⟩ R:=
 .does hg hd hlt (.bsv ho hu hinf hz hzs hr hl (Dy hm) (Dy hm2)) q
theorem J.bo {t e:TypeId}{len:Nat}{fr:Bool}{parts:Array (Nat×Operand)}{rows:List (List PV)}{inf:TypeInfo}{z:Value}(ho:o.op= .buildSlice t len parts)(hg:wants ops (St.mk sl ow nx).f o=some true)(hd:o.dst=some d)(hlt:K.can d=true)
  (hu:K.P.underlying t=some (.slice e)) (hinf:K.P.info? e=some inf) (hz:inf.zero=some z) (hzs:z.cells.size=inf.size) (hr:c5 (St.mk sl ow nx).f inf.size 0 parts.toList=some (fr,rows)) (hl:rows.length=len) (hm:Nat.ble (len*inf.size) 16777216=true) (hm2:Nat.ble len 16777216=true)
  (q:J K ops dr rest ⟨(d,.ref nx)::sl,(nx,some (.sl e inf.size fr rows))::ow,nx+1⟩ R):J K ops dr (o::rest) ⟨sl,ow,nx⟩ R:=
 .does hg hd hlt (.bso ho hu hinf hz hzs hr hl (Dy hm) (Dy hm2)) q
theorem J.c {x:Operand}{args:Array Operand}{tys:Array TypeId}{f:FuncId}{first caps ps:List PV}{al fx:Bool}{res:List RV}(ho:o.op= .call { callee:= .value x,args:=args,argTypes:=tys })(hg:wants ops (St.mk sl ow nx).f o=some true)(hd:o.dst=some d)(hlt:K.can d=true)
  (hx:(St.mk sl ow nx).f.get x=some (.val fx (.fn (.func f) first caps))) (hspec:Spec K.P f al (first++ps++caps) res) (ha:bW (St.mk sl ow nx).f al args.toList=some ps)
  (q:J K ops dr rest ⟨(d,RV.one (!al) nx res)::sl,cw nx (RV.owns (!al) res) ow,nx+(RV.owns (!al) res).length⟩ R):J K ops dr (o::rest) ⟨sl,ow,nx⟩ R:=
 .does hg hd hlt (.call ho hx ha hspec) q
theorem J.sub (h: ∀a w,Rel K E a w->Rel K E' a w)(k:J K ops false rest E' R):J K ops false rest E R:=⟨TO.sub h k.out⟩
theorem J.a {args:Array Operand}{tys:Array TypeId}{s y:Operand}{t e:TypeId}{q sz:Nat}{fr fy:Bool}{rows rows2:List (List PV)}{sy:SV}{inf:TypeInfo}{z:Value}
  (ho:o.op= .call { callee:= .builtin .append,args:=args,argTypes:=tys }) (ha:args.toList=[s,y]) (ht:tys.toList=[t,t]) (hg:wants ops (St.mk sl ow nx).f o=some true) (hd:o.dst=some d) (hlt:K.can d=true)
  (hs:(St.mk sl ow nx).f.get s=some (.ref q)) (hq:(St.mk sl ow nx).f.own q=some (.sl e sz fr rows)) (hy:(St.mk sl ow nx).f.get y=some sy) (hp:(St.mk sl ow nx).f.pvf sy=some (fy,.sl rows2))
  (hu:K.P.underlying t=some (.slice e)) (hi:K.P.info? e=some inf) (hsz:inf.size=sz) (hz:inf.zero=some z) (hzs:z.cells.size=sz) (h0:Nat.blt 0 sz=true) (hb1:Nat.ble 1 inf.bytes=true)
  (hl2: ∀r∈rows2,r.length=sz) (hby:(rows.length+rows2.length)*inf.bytes<=140737488355328)
  (k:J K ops false rest ⟨(d,.ref nx)::sl,(nx,some (.sl e sz (fr&&fy) (rows++rows2)))::(q,none)::ow,nx+1⟩ R):J K ops false (o::rest) ⟨sl,ow,nx⟩ R:=
 ⟨TO.a ho ha ht hg hd hlt hs hq hy hp hu hi hsz hz hzs (by simpa[Fd]using h0) hl2 hby (Dy hb1) k.out⟩
theorem J.an {args:Array Operand}{tys:Array TypeId}{s y:Operand}{t e:TypeId}{fy:Bool}{rows2:List (List PV)}{sy:SV}{inf:TypeInfo}{z:Value}
  (ho:o.op= .call { callee:= .builtin .append,args:=args,argTypes:=tys }) (ha:args.toList=[s,y]) (ht:tys.toList=[t,t]) (hg:wants ops (St.mk sl ow nx).f o=some true) (hd:o.dst=some d) (hlt:K.can d=true)
  (hs:(St.mk sl ow nx).f.get s=some .nilsl) (hy:(St.mk sl ow nx).f.get y=some sy) (hp:(St.mk sl ow nx).f.pvf sy=some (fy,.sl rows2))
  (hu:K.P.underlying t=some (.slice e)) (hi:K.P.info? e=some inf) (hz:inf.zero=some z) (hzs:z.cells.size=inf.size) (h0:Nat.blt 0 inf.size=true) (hb1:Nat.ble 1 inf.bytes=true)
  (hl2: ∀r∈rows2,r.length=inf.size) (hby:rows2.length*inf.bytes<=140737488355328)
  (k:J K ops false rest ⟨(d,.ref nx)::sl,(nx,some (.sl e inf.size fy rows2))::ow,nx+1⟩ R):J K ops false (o::rest) ⟨sl,ow,nx⟩ R:=
 ⟨TO.an ho ha ht hg hd hlt hs hy hp hu hi hz hzs (by simpa[Fd]using h0) hl2 hby (Dy hb1) k.out⟩
theorem J.w {t:TypeId}{x y:Operand}{q i off st:Nat}{c c':Own}{sy:SV}{fp:Bool}{p:PV}{inf:TypeInfo}
  (ho:o.op= .store t x y) (hg:wants ops (St.mk sl ow nx).f o=some true) (hd:o.dst=none) (hx:(St.mk sl ow nx).f.get x=some (.optr q i off st)) (hq:(St.mk sl ow nx).f.own q=some c) (hy:(St.mk sl ow nx).f.get y=some sy) (hp:sy.ff=some (fp,p))
  (hi:K.P.info? t=some inf) (hs:p.cells.length=inf.size) (hc:c.put i off st fp p.cells=some c') (k:J K ops false rest ⟨sl,(q,some c')::ow,nx⟩ R):J K ops false (o::rest) ⟨sl,ow,nx⟩ R:=
 ⟨TO.w ho hg hd hx hq hy hp hi hs hc k.out⟩
variable {Q:Exit->St->Prop}{id:Nat}
theorem T.r (h:J K ops false ops.toList E (Q .normal)):T K (.region id ops false) E Q:=T.region h.out
theorem B2 {q:Nat}{sv:SV}(h:nr q (some sv)=true)(hsc:sv.inU (λ_=>True)):sv.inU (· ≠q):=by
 cases sv with
 |ref o=>exact(by simpa[nr]using h:o≠q)
 |optr o i off st=>exact(by simpa[nr]using h:o≠q)
 |fref f o=>exact(by simpa[nr]using h:o≠q)
 |eq f o=>exact(by simpa[nr]using h:o≠q)
 |tupB ag l=>
  intro s hs;have h2:=DI.1 (show(l.all _)=true from h) s hs;have h3:=hsc s hs;cases s with
  |ref o=>exact(by simpa using h2:o≠q)
  |optr o i off st=>exact(by simpa using h2:o≠q)
  |fref f o=>exact(by simpa using h2:o≠q)
  |eq f o=>exact(by simpa using h2:o≠q)
  |tupB ag l=>exact h3
  |_=>trivial
 |_=>trivial
theorem T.rdw (m:Nat)(hmix:K.P.follows .mixedOrders=true)(hok:okW ops m=true)(hm:Nat.ble m ops.size=true)(h:J K ops true (ops.toList.take m) E (λE'=>chk E.nx E.f E'.f ops m=true/\J K ops false (ops.toList.drop m) E' (Q .normal))):T K (.region id ops true) E Q:=by
 refine⟨λa w hr=> ?_⟩;obtain⟨φ,hφ⟩:=hr;obtain⟨E',hTD,hchk,hJ⟩:=h.out;have hm':=Dy hm;have hlen:(ops.toList.take m).length=m:=(by simp;omega);obtain⟨rs,W,h0,h1,h2,h3,h4,h5⟩:=hTD.recs;rw[hlen]at h1 h3 h4;have hokd:=Ai hok;have h5': ∀(i:Nat) o,i<m->ops[i]? =some o->RO K ops (W i) o (rs i):=λi o hi ho=>h5 i o (by rw[Ek,D4 hi];simpa using ho);have hdst: ∀(i:Nat) o,i<m->ops[i]? =some o->o.dst=(rs i).d:=by
  intro i o hi ho;have hr:=h5' i o hi ho;generalize rs i=r at hr⊢;cases hr with
  |does _ hd _ _=>exact hd
  |skip _ hd _=>exact hd
  |sto _ hd _=>exact hd
  |app _ hd _ _=>exact hd
  |appf _ hd _ _ _=>exact hd
  |lraw _ hd _ _ _ _ _ _ _ _=>exact hd
  |cbox _ hd _ _ _=>exact hd
  |lmap _ hd _ _ _ _ _ _ _ _ _=>exact hd
 have hone: ∀i j s,i<m->j<m->(rs i).d=some s->(rs j).d=some s->i=j:=by
  intro i j s hi hj e e2;by_cases hij:i=j;·exact hij
  ·have hoi:ops[i]? =some (ops[i]'(by omega)):=Dt (by omega);have hoj:ops[j]? =some (ops[j]'(by omega)):=Dt (by omega);exact DU ((hdst j _ hj hoj).trans e2) ((hokd.free j _ hoj hj i _ hi hoi hij).1 s ((hdst i _ hi hoi).trans e))
 have hslot: ∀i,i<=m->∀s,((W i).slot s=E.f.slot s/\∀k,k<i->(rs k).d≠some s)∨∃k,k<i/\(rs k).d=some s/\(W i).slot s=some (rs k).sv:=by
  intro i
  induction i with
  |zero=>intro _ s;exact .inl ⟨by rw[h0],λk hk=>DU hk (EO _)⟩
  |succ i ih=>
   intro hi s;rw[(h4 i (by omega)).1];simp only[upd];by_cases e:(rs i).d=some s;·exact .inr ⟨i,Eh i,e,by rw[D4 e]⟩
   ·rw[D2 e];rcases ih (by omega) s with ⟨h6,h7⟩|⟨k,hk,h6,h7⟩
    ·exact .inl ⟨h6,λk hk=>by
      by_cases e2:k=i;·subst e2;exact e
      ·exact h7 k (by omega)⟩
    ·exact .inr ⟨k,by omega,h6,h7⟩
 have htwo: ∀i,i<=m->∀s,(W i).slot s=E.f.slot s∨(W i).slot s=E'.f.slot s:=by
  intro i hi s;rcases hslot i hi s with ⟨h6,_⟩|⟨k,hk,h6,h7⟩;·exact .inl h6
  ·refine .inr ?_;rcases hslot m (DL _) s with ⟨_,h9⟩|⟨k',hk',h9,h10⟩;·exact DU h6 (h9 k (by omega))
   ·rw[<-h1,h10,h7,hone k k' s (by omega) hk' h6 h9]
 have hscope: ∀i,i<=m->∀s sv,(W i).slot s=some sv->sv.inU (λ_=>True):=by
  intro i
  induction i with
  |zero=>intro _ s sv h;rw[h0]at h;exact SV.in_mono (hφ.sin s sv h) λ_ _=>trivial
  |succ i ih=>
   intro hi s sv h;have hoi:ops[i]? =some (ops[i]'(by omega)):=Dt (by omega);have hr:=h5' i _ (by omega) hoi;have hprev:=ih (by omega);rw[(h4 i (by omega)).1]at h;generalize rs i=r at hr h;cases hr with
   | @does d n sv' ad hw hd hdl hdo=>
    simp only[upd,D6]at h;split at h
    ·obtain rfl:=D3 h;exact SV.in_mono (hdo.in_ hprev) λ_ _=>trivial
    ·exact hprev s sv h
   | @skip d n hw hd hdl=>
    simp only[upd,D6]at h;split at h
    ·obtain rfl:=D3 h;intro s hs;cases hs
    ·exact hprev s sv h
   | @sto n q c hw hd hdo=>
    simp[upd]at h;exact hprev s sv h
   | @app d n src c hw hd hdl hdo=>
    simp only[upd,D6]at h;split at h;·obtain rfl:=D3 h;trivial
    ·exact hprev s sv h
   | @appf d n q sz e fr rows hw hd hdl hMn hdo=>
    simp only[upd,D6]at h;split at h;·obtain rfl:=D3 h;trivial
    ·exact hprev s sv h
   | @lraw d n g q t x sx sv' fr cs u hw hd hdl ho hx hc hp hg hall hsv=>
    simp only[upd,D6]at h;split at h
    ·obtain rfl:=D3 h;rcases hsv with rfl|⟨_,rfl⟩<;>trivial
    ·exact hprev s sv h
   | @cbox d n g q q2 sv' ad hw hd hdl hdo hall=>
    simp only[upd,D6]at h;split at h
    ·obtain rfl:=D3 h;exact SV.in_mono (hdo.in_ (U:=λ_=>True)) λ_ _=>trivial
    ·exact hprev s sv h
   | @lmap d n g q m' t x i si fi fr pi b l u hw hd hdl ho hx hm' hi hp hsem hg hall=>
    simp only[upd,D6]at h;split at h;·obtain rfl:=D3 h;trivial
    ·exact hprev s sv h
 have htg: ∀k q c,k<m->(rs k).wr=some (q,c)->∃o l,ops[k]? =some o/\tgs E.f E'.f o.op=some l/\q∈l:=by
  intro k q c hk hw;have hok':ops[k]? =some (ops[k]'(by omega)):=Dt (by omega);have hr:=h5' k _ hk hok';have h6:=DI.1 hchk k (DM.2 hk);rw[hok']at h6;generalize rs k=r at hr hw;cases hr with
  |does _ _ _ _=>cases hw
  |skip _ _ _=>cases hw
  |lraw _ _ _ _ _ _ _ _ _ _=>cases hw
  |cbox _ _ _ _ _=>cases hw
  |lmap _ _ _ _ _ _ _ _ _ _ _=>cases hw
  |sto _ _ hdo=>
   cases hw;cases hdo with
   | @mk t x y i off st c sy fp p inf hop hx _ _ _ _ _ _=>
    cases x with
    |tmp tx=>
     have hx:(W k).slot tx=some (.optr q i off st):=hx;refine⟨_,_,hok',by rw[hop];rfl,?_⟩;rcases htwo k (by omega) tx with e|e;·rw[<-e,hx];exact Do _ (.head _)
     ·rw[<-e,hx];exact Dq _ (.head _)
    |_=>simp[hop,tgs]at h6
  |app _ _ _ hdo=>
   cases hdo with
   |nil _ _ _ _ _ _ _ _ _ _ _ _ _ _=>cases hw
   | @own args tys s y t e q sz fr fy rows rows2 sy inf z hop ha ht hx=>
    cases hw;cases s with
    |tmp tx=>
     have hx:(W k).slot tx=some (.ref q):=hx;refine⟨_,_,hok',by rw[hop];simp only[tgs,ha,lE,if_true];rfl,?_⟩;rcases htwo k (by omega) tx with e|e;·rw[<-e,hx];exact Do _ (.head _)
     ·rw[<-e,hx];exact Dq _ (.head _)
    |const v=>
     simp only[EnvF.get,cSV]at hx;split at hx;·cases hx
     ·obtain⟨p,_,hx⟩:=DY.1 hx;cases hx
    |func f=>simp[EnvF.get]at hx
    |global g=>simp[EnvF.get]at hx
   | @call args tys x s y1 y2 f fx f1 f2 fr p1 p2 e q sz rows rows' him hop ha hx=>
    cases hw;cases s with
    |tmp tx=>
     have hx:(W k).slot tx=some (.ref q):=hx;refine⟨_,_,hok',by rw[hop]at him⊢;simp only[tgs,him,if_true,ha];rfl,?_⟩;rcases htwo k (by omega) tx with e|e;·rw[<-e,hx];exact Do _ (.head _)
     ·rw[<-e,hx];exact Dq _ (.head _)
    |const v=>
     simp only[EnvF.get,cSV]at hx;split at hx;·cases hx
     ·obtain⟨p,_,hx⟩:=DY.1 hx;cases hx
    |func f=>simp[EnvF.get]at hx
    |global g=>simp[EnvF.get]at hx
  |appf _ _ _ _ hdo=>
   cases hdo with
   | @own args tys s y t e q sz fr fy rows rows2 sy inf z hop ha ht hx=>
    cases hw;cases s with
    |tmp tx=>
     have hx:(W k).slot tx=some (.ref q):=hx;refine⟨_,_,hok',by rw[hop];simp only[tgs,ha,lE,if_true];rfl,?_⟩;rcases htwo k (by omega) tx with e|e;·rw[<-e,hx];exact Do _ (.head _)
     ·rw[<-e,hx];exact Dq _ (.head _)
    |const v=>
     simp only[EnvF.get,cSV]at hx;split at hx;·cases hx
     ·obtain⟨p,_,hx⟩:=DY.1 hx;cases hx
    |func f=>simp[EnvF.get]at hx
    |global g=>simp[EnvF.get]at hx
   | @call args tys x s y1 y2 f fx f1 f2 fr p1 p2 e q sz rows rows' him hop ha hx=>
    cases hw;cases s with
    |tmp tx=>
     have hx:(W k).slot tx=some (.ref q):=hx;refine⟨_,_,hok',by rw[hop]at him⊢;simp only[tgs,him,if_true,ha];rfl,?_⟩;rcases htwo k (by omega) tx with e|e;·rw[<-e,hx];exact Do _ (.head _)
     ·rw[<-e,hx];exact Dq _ (.head _)
    |const v=>
     simp only[EnvF.get,cSV]at hx;split at hx;·cases hx
     ·obtain⟨p,_,hx⟩:=DY.1 hx;cases hx
    |func f=>simp[EnvF.get]at hx
    |global g=>simp[EnvF.get]at hx
 have hck: ∀k q c,k<m->(rs k).wr=some (q,c)->∃l,C8 E.nx E.f E'.f ops m k l=true/\q∈l:=by
  intro k q c hk hw;obtain⟨o,l,ho,hl,hq⟩:=htg k q c hk hw;have h6:=DI.1 hchk k (DM.2 hk);simp only[ho,hl]at h6;exact⟨l,h6,hq⟩
 refine wp_region_any hmix ?_;have hw:RelW K E.f (· <E.nx) φ a { w with drawn:=w.drawn+1 }:=hφ.world ⟨rfl,rfl,rfl,DL _,λ_ _=>rfl⟩;refine AP hokd hm' h0 h1 h2 h3 h4 h5' ?_ ?_ hw.sin (λa' w' φ' hr'=> ?_) ops.size (Array.replicate ops.size false) φ a _ (by simp) ?_ ?_ ?_ ?_
 ·intro k j q c hk hj hjk hwr hq1 hq2;obtain⟨l,h6,hq⟩:=hck k q c hk hwr;have h7:=DI.1 h6 q hq;simp only[DJ,Ey]at h7;have hmn: ∀i,i<=m->(rs 0).n<=(rs i).n:=by
   intro i
   induction i with
   |zero=>intro _;exact DL _
   |succ i ih=>intro hi;have:=(h4 i (by omega)).2;have:=ih (by omega);omega
  have hE:E.nx<=(rs j).n:=(by rw[<-h2];exact hmn j (by omega));rcases h7.1 with h8|h8
  ·have:q<E.nx:=(by simpa[Fd]using h8);omega
  ·have h9:=DI.1 h8 j (DM.2 hjk);have hoj:ops[j]? =some (ops[j]'(by omega)):=Dt (by omega);simp only[hoj,Ey]at h9;rcases h9 with h9|h9
   ·unfold eT at h9;rwa[D4 hjk]at h9
   ·exfalso;have hr:=h5' j _ hj hoj;have hdj:=hdst j _ hj hoj;rw[hdj]at h9;have hsj: ∀s,(rs j).d=some s->E'.f.slot s=some (rs j).sv:=λs hs=>by
     rcases hslot m (DL _) s with ⟨_,h10⟩|⟨k',hk',h10,h11⟩;·exact DU hs (h10 j hj)
     ·rw[<-h1,h11,hone k' j s hk' hj h10 hs]
    generalize rs j=r at hr h9 hsj hq1 hq2 hE;cases hr with
    |does _ _ _ hdo=>
     simp only[hsj _ rfl]at h9;rw[hdo.noAd hE h9]at hq2;dsimp only at hq1 hq2;simp at hq2;omega
    |skip _ _ _=>dsimp only at hq1 hq2;simp at hq2;omega
    |sto _ _ _=>dsimp only at hq1 hq2;simp at hq2;omega
    |app _ _ _ _=>
     simp only[hsj _ rfl]at h9;have h9:Nat.blt _ _=true:=h9;rw[Fd]at h9;dsimp only at hE;omega
    |appf _ _ _ _ _=>dsimp only at hq1 hq2;simp at hq2;omega
    |lraw _ _ _ _ _ _ _ _ _ _=>dsimp only at hq1 hq2;simp at hq2;omega
    |cbox _ _ _ hdo _=>
     simp only[hsj _ rfl]at h9;rw[hdo.noAd hE h9]at hq2;dsimp only at hq1 hq2;simp at hq2;omega
    |lmap _ _ _ _ _ _ _ _ _ _ _=>dsimp only at hq1 hq2;simp at hq2;omega
 ·intro k j hk hj hkj q c o hwr ho;obtain⟨l,h6,hq⟩:=hck k q c hk hwr;have h7:=DI.1 h6 q hq;simp only[DJ]at h7;have h7:=DI.1 h7.2 j (DM.2 hj);simp only[Ey,beq_iff_eq,ho]at h7;rcases h7 with (h7|h7)|h7;·exact DU h7.symm hkj
  ·exact .inl h7
  ·refine .inr λz hz sv hsv=> ?_;have h8:=DI.1 h7 z (by simpa using hz);cases z with
   |tmp s=>
    simp only[DJ]at h8;have hsv':(W j).slot s=some sv:=hsv;have hin:=hscope j (by omega) s sv hsv';rcases htwo j (by omega) s with e|e;·rw[e]at hsv';rw[hsv']at h8;exact B2 h8.1 hin
    ·rw[e]at hsv';rw[hsv']at h8;exact B2 h8.2 hin
   |const v=>
    simp only[EnvF.get,cSV]at hsv;split at hsv;·obtain rfl:=D3 hsv;trivial
    ·obtain⟨p,_,rfl⟩:=DY.1 hsv;trivial
   |func f=>simp only[EnvF.get,D6]at hsv;subst hsv;trivial
   |global g=>simp[EnvF.get]at hsv
 ·have hto:=hJ.out.out a' w' (Cn K Q) ⟨φ',hr'⟩ λE2 a2 w2 hq hr2=>⟨rfl,E2,hq,hr2⟩;have e:=wpOps_eq_wpList (P:=K.P) (ops:=ops) (Q:=Cn K Q) (ops.toList.drop m) m (λj=>by simp);rw[show(ops.toList.drop m).length=ops.size-m by simp]at e;rw[e];exact hto
 ·intro k hk;simp[Array.getD]at hk
 ·intro k o hk;simp[Array.getD]at hk
 ·unfold qx;have:=EX (λi=> !(Array.replicate ops.size false).getD i true) (List.range ops.size);simpa using this
 ·have e1:ov E.f rs (λk=>(Array.replicate ops.size false).getD k false=true)=E.f:=by
   refine(gO λk=> ?_).trans (xC (V0:=E.f) (rs:=rs));simp[Array.getD]
  have e2:(λq=>q<E.nx∨∃k,(Array.replicate ops.size false).getD k false=true/\(rs k).n<=q/\q<(rs k).n+(rs k).ad.length)=(· <E.nx):=by
   funext q;simp only[eq_iff_iff];constructor
   ·rintro(h|⟨k,hk,_⟩);·exact h
    ·simp[Array.getD]at hk
   ·exact .inl
  rw[e1,e2];exact hw
theorem T.rdm (m:Nat)(hmix:K.P.follows .mixedOrders=true)(hok:okD ops m=true)(hm:Nat.ble m ops.size=true)(h:J K ops true (ops.toList.take m) E (λE'=>J K ops false (ops.toList.drop m) E' (Q .normal))):T K (.region id ops true) E Q:=by
 have hok':okW ops m=true:=(by simp only[okD,DJ]at hok;exact hok.1);refine T.rdw m hmix hok' hm ⟨?_⟩;obtain⟨E',h1,h2⟩:=h.out;exact⟨E',h1,zn hok,h2⟩
theorem J.wd {t:TypeId}{x y:Operand}{q i off st:Nat}{c c':Own}{sy:SV}{fp:Bool}{p:PV}{inf:TypeInfo}
  (ho:o.op= .store t x y) (hg:wants ops (St.mk sl ow nx).f o=some true) (hd:o.dst=none) (hx:(St.mk sl ow nx).f.get x=some (.optr q i off st)) (hq:(St.mk sl ow nx).f.own q=some c) (hy:(St.mk sl ow nx).f.get y=some sy) (hp:sy.ff=some (fp,p))
  (hi:K.P.info? t=some inf) (hs:p.cells.length=inf.size) (hc:c.put i off st fp p.cells=some c') (k:J K ops true rest ⟨sl,(q,some c')::ow,nx⟩ R):J K ops true (o::rest) ⟨sl,ow,nx⟩ R:=by
 obtain⟨E',h1,h2⟩:=k.out;refine⟨E',TD.sto hg hd (.mk ho hx hq hy hp hi hs hc) ?_ h1,h2⟩;refine EnvF.ext (λs=>rfl) (λj=> ?_);simp only[St.f,ai];by_cases e:q=j;·rw[D4 e,D4 e.symm];rfl
 ·rw[D2 e,D2 (Ne.symm e)]
theorem T.rd (hmix:K.P.follows .mixedOrders=true)(hok:okD ops ops.size=true)(h:J K ops true ops.toList E (Q .normal)):T K (.region id ops true) E Q:=by
 refine T.rdm ops.size hmix hok (Nat.ble_eq_true_of_le (DL _)) ?_;rw[<-EI,E8,EY];obtain⟨E',h1,h2⟩:=h.out;exact⟨E',h1,.nil h2⟩
theorem J.ad {args:Array Operand}{tys:Array TypeId}{s y:Operand}{t e:TypeId}{q sz:Nat}{fr fy:Bool}{rows rows2:List (List PV)}{sy:SV}{inf:TypeInfo}{z:Value}
  (ho:o.op= .call { callee:= .builtin .append,args:=args,argTypes:=tys }) (ha:args.toList=[s,y]) (ht:tys.toList=[t,t]) (hg:wants ops (St.mk sl ow nx).f o=some true) (hd:o.dst=some d) (hlt:K.can d=true)
  (hs:(St.mk sl ow nx).f.get s=some (.ref q)) (hq:(St.mk sl ow nx).f.own q=some (.sl e sz fr rows)) (hy:(St.mk sl ow nx).f.get y=some sy) (hp:(St.mk sl ow nx).f.pvf sy=some (fy,.sl rows2))
  (hu:K.P.underlying t=some (.slice e)) (hi:K.P.info? e=some inf) (hsz:inf.size=sz) (hz:inf.zero=some z) (hzs:z.cells.size=sz) (h0:Nat.blt 0 sz=true) (hb1:Nat.ble 1 inf.bytes=true) (hqn:Nat.blt q nx=true)
  (hl2: ∀r∈rows2,r.length=sz) (hby:(rows.length+rows2.length)*inf.bytes<=140737488355328)
  (k:J K ops true rest ⟨(d,.ref nx)::sl,(nx,some (.sl e sz (fr&&fy) (rows++rows2)))::(q,none)::ow,nx+1⟩ R):J K ops true (o::rest) ⟨sl,ow,nx⟩ R:=by
 obtain⟨E',h1,h2⟩:=k.out;refine⟨E',?_,h2⟩;have hro:RO K ops (St.mk sl ow nx).f o ⟨some d,.ref nx,[.sl e sz (fr&&fy) (rows++rows2)],nx,some (q,none)⟩:= .app (src:=some q) hg hd hlt (.own ho ha ht hs hq hy hp hu hi hsz hz hzs (by simpa[Fd]using h0) (Dy hb1) hl2 hby);refine TD.step (r:=⟨some d,.ref nx,[.sl e sz (fr&&fy) (rows++rows2)],nx,some (q,none)⟩) hro ?_;have e1:upd (St.mk sl ow nx).f ⟨some d,.ref nx,[.sl e sz (fr&&fy) (rows++rows2)],nx,some (q,none)⟩=(St.mk ((d,.ref nx)::sl) ((nx,some (.sl e sz (fr&&fy) (rows++rows2)))::(q,none)::ow) (nx+1)).f:=by
  have hqn:q<nx:=(by simpa[Fd]using hqn);refine EnvF.ext (λs=> ?_) (λi=> ?_);·simp only[upd,St.f,ai,D6]
  ·simp only[upd,St.f,ai,cq,EW];by_cases e1:i=q;·subst e1;rw[D4 Y,D2 (by omega),D4 Y];rfl
   ·rw[D2 e1];by_cases e2:i=nx;·subst e2;rw[D4 (by omega),D4 Y];simp
    ·rw[D2 (by omega),D2 (Ne.symm e2),D2 (Ne.symm e1)]
 rw[e1];exact h1
theorem J.lr (g:Nat){t:TypeId}{x:Operand}{sx:SV}{fr:Bool}{cs:List PV}{u:Value}{q:Nat}(ho:o.op= .load t x)(hg:wants ops (St.mk sl ow nx).f o=some true)(hd:o.dst=some d)(hlt:K.can d=true)(hx:(St.mk sl ow nx).f.get x=some sx)
  (hc:(St.mk sl ow nx).f.cellsAt sx=some (fr,cs)) (hp:iq K.P t cs=some (.raw u)) (hgs:lk sl g=some (.eq u q)) (hall:(ops.toList.all λo'=>o'.dst != some g)=true) (k:J K ops true rest ⟨(d,.ref q)::sl,ow,nx⟩ R):J K ops true (o::rest) ⟨sl,ow,nx⟩ R:=by
 obtain⟨E',h1,h2⟩:=k.out;refine⟨E',?_,h2⟩;refine TD.step (r:=⟨some d,.ref q,[],nx,none⟩) (.lraw hg hd hlt ho hx hc hp hgs hall (.inl Y)) ?_;have e1:upd (St.mk sl ow nx).f ⟨some d,.ref q,[],nx,none⟩=(St.mk ((d,.ref q)::sl) ow nx).f:=by
  refine EnvF.ext (λs=> ?_) (λi=> ?_);·simp only[upd,St.f,ai,D6]
  ·simp only[upd,St.f];exact bX _ _ _
 rw[e1];exact h1
theorem J.lp (g:Nat){t:TypeId}{x:Operand}{sx:SV}{fr:Bool}{cs:List PV}{b:Nat}{q:Nat}(hgs:lk sl g=some (.eq (.pointer (some ⟨b,0,none⟩)) q))(k:J K ops true rest ⟨(d,.optr q 0 0 0)::sl,ow,nx⟩ R)(ho:o.op= .load t x:=by exact Y)(hg:wants ops (St.mk sl ow nx).f o=some true:=by exact Y)(hd:o.dst=some d:=by exact Y)(hlt:K.can d=true:=by exact Y)(hx:(St.mk sl ow nx).f.get x=some sx:=by exact Y)
  (hc:(St.mk sl ow nx).f.cellsAt sx=some (fr,cs):=by exact Y) (hp:iq K.P t cs=some (.raw (.pointer (some ⟨b,0,none⟩))):=by exact Y) (hall:(ops.toList.all λo'=>o'.dst != some g)=true:=by exact Y):J K ops true (o::rest) ⟨sl,ow,nx⟩ R:=by
 obtain⟨E',h1,h2⟩:=k.out;refine⟨E',?_,h2⟩;refine TD.step (r:=⟨some d,.optr q 0 0 0,[],nx,none⟩) (.lraw hg hd hlt ho hx hc hp hgs hall (.inr ⟨⟨b,rfl⟩,rfl⟩)) ?_;have e1:upd (St.mk sl ow nx).f ⟨some d,.optr q 0 0 0,[],nx,none⟩=(St.mk ((d,.optr q 0 0 0)::sl) ow nx).f:=by
  refine EnvF.ext (λs=> ?_) (λi=> ?_);·simp only[upd,St.f,ai,D6]
  ·simp only[upd,St.f];exact bX _ _ _
 rw[e1];exact h1
theorem J.cb (g:Nat){y x:Operand}{args:Array Operand}{tys:Array TypeId}{f:FuncId}{fx frb fr:Bool}{res:List RV}{row:List PV}{e:TypeId}{sz q q2:Nat}{rows:List (List PV)}{u:Value}(hspec:Spec K.P f false [.ptr [.sl rows]] res)
  (k:J K ops true rest ⟨(d,RV.one true nx res)::sl,cw nx (RV.owns true res) ow,nx+(RV.owns true res).length⟩ R)
  (ho:o.op= .call { callee:= .value y,args:=args,argTypes:=tys }:=by exact Y) (hg:wants ops (St.mk sl ow nx).f o=some true:=by exact Y) (hd:o.dst=some d:=by exact Y) (hlt:K.can d=true:=by exact Y) (hy:(St.mk sl ow nx).f.get y=some (.val fx (.fn (.func f) [] [])):=by exact Y) (ha:args.toList=[x]:=by exact Y)
  (hx:(St.mk sl ow nx).f.get x=some (.optr q 0 0 0):=by exact Y) (hq:(St.mk sl ow nx).f.own q=some (.box frb (.raw u::row)):=by exact Y) (hgs:lk sl g=some (.eq u q2):=by exact Y) (hq2:(St.mk sl ow nx).f.own q2=some (.sl e sz fr rows):=by exact Y)
  (hall:(ops.toList.all λo'=>o'.dst != some g&&l5 (St.mk sl ow nx).f ops q2 o'.op&& !lE o'.op)=true:=by exact Y):J K ops true (o::rest) ⟨sl,ow,nx⟩ R:=by
 obtain⟨E',h1,h2⟩:=k.out;refine⟨E',?_,h2⟩;refine TD.step (r:=⟨some d,RV.one true nx res,RV.owns true res,nx,none⟩) (.cbox hg hd hlt (.mk ho hy ha hx hq hgs hq2 hspec) hall) ?_;have e1:upd (St.mk sl ow nx).f ⟨some d,RV.one true nx res,RV.owns true res,nx,none⟩=(St.mk ((d,RV.one true nx res)::sl) (cw nx (RV.owns true res) ow) (nx+(RV.owns true res).length)).f:=by
  rw[wQ sl ow nx (nx+(RV.owns true res).length) (RV.owns true res)];refine EnvF.ext (λs=> ?_) (λi=>rfl);simp only[upd,D6];by_cases e:d=s;·rw[D4 e,D4 e.symm]
  ·rw[D2 e,D2 (Ne.symm e)]
 rw[e1];exact h1
theorem J.ca (g:Nat){y x:Operand}{args:Array Operand}{tys:Array TypeId}{f:FuncId}{xs:List Operand}{fx fa fr:Bool}{res:List RV}{row ps:List PV}{e:TypeId}{sz q2:Nat}{rows:List (List PV)}{u:Value}(hspec:Spec K.P f false (.agg (.sl rows::row)::ps) res)
  (k:J K ops true rest ⟨(d,RV.one true nx res)::sl,cw nx (RV.owns true res) ow,nx+(RV.owns true res).length⟩ R)
  (ho:o.op= .call { callee:= .value y,args:=args,argTypes:=tys }:=by exact Y) (hg:wants ops (St.mk sl ow nx).f o=some true:=by exact Y) (hd:o.dst=some d:=by exact Y) (hlt:K.can d=true:=by exact Y) (hy:(St.mk sl ow nx).f.get y=some (.val fx (.fn (.func f) [] [])):=by exact Y) (ha:args.toList=x::xs:=by exact Y)
  (hx:(St.mk sl ow nx).f.get x=some (.val fa (.agg (.raw u::row))):=by exact Y) (hq:bW (St.mk sl ow nx).f false xs=some ps:=by exact Y) (hgs:lk sl g=some (.eq u q2):=by exact Y) (hq2:(St.mk sl ow nx).f.own q2=some (.sl e sz fr rows):=by exact Y)
  (hall:(ops.toList.all λo'=>o'.dst != some g&&l5 (St.mk sl ow nx).f ops q2 o'.op&& !lE o'.op)=true:=by exact Y):J K ops true (o::rest) ⟨sl,ow,nx⟩ R:=by
 obtain⟨E',h1,h2⟩:=k.out;refine⟨E',?_,h2⟩;refine TD.step (r:=⟨some d,RV.one true nx res,RV.owns true res,nx,none⟩) (.cbox (q:=0) hg hd hlt (.agg ho hy ha hx hq hgs hq2 hspec) hall) ?_;have e1:upd (St.mk sl ow nx).f ⟨some d,RV.one true nx res,RV.owns true res,nx,none⟩=(St.mk ((d,RV.one true nx res)::sl) (cw nx (RV.owns true res) ow) (nx+(RV.owns true res).length)).f:=by
  rw[wQ sl ow nx (nx+(RV.owns true res).length) (RV.owns true res)];refine EnvF.ext (λs=> ?_) (λi=>rfl);simp only[upd,D6];by_cases e:d=s;·rw[D4 e,D4 e.symm]
  ·rw[D2 e,D2 (Ne.symm e)]
 rw[e1];exact h1
end
theorem nt {P:Program}{t e:TypeId}(hu:P.underlying t=some (.slice e))(b:Option Addr)(n c:Nat)(w:World):(Op.equal t (.slice b n c) (.slice none 0 0)).run P w= .ok b.isNone w:=by
 have key: ∀d,(Op.equalIn (d+1) t (.slice b n c) (.slice none 0 0)).run P w= .ok b.isNone w:=by
  intro d;rw[Op.equalIn];simp only[DK,run_underlying hu,DA];cases b<;>rfl
 exact key 9999
section
variable {K:Ctx}{ops:Array Oper}{dr:Bool}{o:Oper}{rest:List Oper}{sl:List (Nat×SV)}{ow:List (Nat×Option Own)}{nx:Nat}{R:St->Prop}{E E':St}{d:Nat}{sv:SV}
theorem J.nc {t yt e:TypeId}{x:Operand}{sx:SV}{fr:Bool}{rows:List (List PV)}(ho:o.op= .binOp .eql t x (.const (.slice none 0 0)) yt)(hg:wants ops (St.mk sl ow nx).f o=some true)(hd:o.dst=some d)(hlt:K.can d=true)
  (hx:(St.mk sl ow nx).f.get x=some sx) (hr:sx.ff=some (fr,.sl rows)) (hu:K.P.underlying t=some (.slice e)) (q: ∀b:Bool,(b=true->rows=[])->J K ops false rest ⟨(d,.val true (.bool b))::sl,ow,nx⟩ R):J K ops false (o::rest) ⟨sl,ow,nx⟩ R:=by
 refine⟨⟨λa w Q hrel hk=> ?_⟩⟩;obtain⟨φ,hφ⟩:=hrel;have hrep:=bC hφ hx hr;generalize hv:a.eval x=v at hrep;obtain⟨b,n,c,hvs,hb⟩: ∃b n c,v= .slice b n c/\(b.isNone=true->rows=[]):=by
  cases hrep with
  |nilsl=>exact⟨none,0,0,rfl,λ_=>rfl⟩
  |slE=>exact⟨_,_,_,rfl,λh=>by cases h⟩
  |sl b off cap sz rows xs _ _ _ _ _ _ _ _=>exact⟨_,_,_,rfl,λh=>by cases h⟩
 have hrun:(execOp a.eval o).run K.P w= .ok (.value (.bool b.isNone)) w:=by
  have hg:(eqGuard .eql t x (.const (.slice none 0 0)) (.slice b n c) (.slice none 0 0)).run K.P w= .ok () w:=by
   unfold eqGuard;split<;>rfl
  have he:a.eval (.const (.slice none 0 0))= .slice none 0 0:=rfl;simp only[execOp,ho,hv,he,hvs,DK,hg,DA];simp only[binOp,DK,nt hu,DA,Dr]
 unfold wpList;rw[D4 (aE hφ hg)];refine .inl ?_;unfold Oper.wp;rw[hrun];refine(q b.isNone hb).out.out _ w Q ⟨φ,?_⟩ hk;rw[hd];exact hφ.put hlt (sv:= .val true (.bool b.isNone)) (Rep.bool _) trivial Y slot_put
end
theorem ar.frz {w:World}{Z:Nat->Prop}{v:Value}{e:TypeId}{sz:Nat}{rows:List (List PV)}(h:ar w (λ_=>Z) v (.sl e sz true rows))(hz: ∀g,VB v g->Z g):Rep w Z v (.sl rows):=by
 obtain⟨xs,hwn,hl,h1,h2⟩:=h;have hcell:=λg hg=>hwn.cells (g:=g) hg;have hlt:=hwn.lt;rcases hwn.2 with ⟨rfl,hn⟩|⟨g,cap,cur,rfl,_,hgc,hnc,hcm,_⟩
 ·have:rows=[]:=DP hn;subst this;exact .nilsl
 ·refine .sl g 0 cap sz rows xs (hz g (.inl Y)) (hlt g Y).2 h1 h2 (λj v hj=> ?_) hnc hcm hl;have:=hcell g Y j v hj;rw[bD]at this;exact bY hgc this
def RV.frz:RV->RV
 | .own _ _ rows=> .val (.sl rows)
 |r=>r
theorem sY: ∀(res:List RV) (vs:List Value),RV.vals (res.map RV.frz) vs=[]
 | [],vs=>by cases vs<;>rfl
 |r::res,[]=>by cases r<;>rfl
 |r::res,v::vs=>by cases r<;>exact sY res vs
theorem AO {w:World}{Z1 Z2:Nat->Prop}(hsub: ∀b,Z1 b->Z2 b){rs:List Value}{res:List RV}(h:L2 (RV1 w Z1) rs res)(hf: ∀v g,v∈RV.vals res rs->VB v g->Z2 g):L2 (RV1 w Z2) rs (res.map RV.frz):=by
 induction h with
 |nil=>exact .nil
 | @cons v r vs rs h1 _ ih=>
  cases r with
  |val p=>exact .cons (Rep.mono (λb hb _=>⟨hsub b hb,rfl⟩) h1) (ih λv g hv=>hf v g hv)
  |own e sz rows=>
   refine .cons ?_ (ih λv g hv=>hf v g (.tail _ hv));have h2:ar w (λ_=>Z1) v (.sl e sz true rows):=h1;have h3:ar w (λ_=>Z2) v (.sl e sz true rows):=h2.mono (λ_ _=>rfl) λ_ b hb _=>⟨hsub b hb,rfl⟩;exact h3.frz λg hg=>hf v g (.head _) hg
theorem Spec.frz {P:Program}{f:FuncId}{al:Bool}{args:List PV}{res:List RV}(h:Spec P f al args res):Spec P f al args (res.map RV.frz):=by
 refine⟨h.isFn,λw Z vs hvs=>(h.out w Z vs hvs).mono λe w' ⟨rs,he,hb,hret⟩=>⟨rs,he,hb,?_⟩⟩;have hno:=sY res;refine⟨?_,(λv g hv=>by rw[hno]at hv;cases hv),(λi j v v' g hi=>by rw[hno]at hi;simp at hi)⟩;refine AO (λb hb=>⟨hb.1,λv hv=> ?_⟩) hret.each λv g hv hg=>⟨.inr (hret.fresh v g hv hg),λv hv=> ?_⟩;·rw[hno]at hv;cases hv
 ·rw[hno]at hv;cases hv
end Go.Proofs.YtopcjbahjjhdmaaGreat
