/- The texts CoreI, CoreJ, CoreK, CoreL, CoreM, CoreN, CoreO of the workplace, joined. -/
import Derived.Test.YtopcjbahjjhdmaaGreatB1
namespace Go.Proofs.YtopcjbahjjhdmaaGreat
open Go Go.RowKit
set_option linter.unusedVariables false
set_option linter.unusedSimpArgs false
def fine:Exit->Bool
 | .panic _| .outgrown=>false
 |_=>true
def Dj (K:Ctx)(Q:Exit->St->Prop)(e:Exit)(a:Act)(w:World):Prop:=fine e=true/\∃E,Q e E/\Rel K E a w
structure T (K:Ctx)(c:Code)(E:St)(Q:Exit->St->Prop):Prop where
 out: ∀(a:Act) (w:World),Rel K E a w->c.wp K.P (Dj K Q) a w
def sq (K:Ctx)(b:Code)(Q:Exit->St->Prop):Exit->St->Prop
 | .normal,E=>T K b E Q
 |e,E=>Q e E
def bk (id:Nat)(Q:Exit->St->Prop):Exit->St->Prop
 | .exit i,E=>match Nat.beq i id with
  |true=>Q .normal E
  |false=>Q (.exit i) E
 |e,E=>Q e E
def lp (K:Ctx)(c:Code)(Q:Exit->St->Prop):Exit->St->Prop
 | .normal,E=>T K (.loop c) E Q
 |e,E=>Q e E
theorem qA (id:Nat): ∀(k k':List Item),exitTo id k=some k'->k'.length<=k.length
 | [],k',h=>by simp[exitTo]at h
 |x::k,k',h=>by
  have ih:=qA id k k';cases x with
  |inBlock i=>
   simp only[exitTo]at h;split at h;·obtain rfl:=E7 h;simp
   ·have:=ih h;simp;omega
  |_=>simp only[exitTo]at h;have:=ih h;simp;omega
theorem steps_behind {P:Program}{m m1 m':Machine}(h1:step P m= .next m1)(h:Steps P m m')(hne:m≠m'):Steps P m1 m':=by
 obtain⟨n,hn⟩:=h;cases n with
 |zero=>simp[runN]at hn;exact EX hn hne
 |succ n=>simp only[runN,h1]at hn;exact⟨n,hn⟩
theorem m9 {fr fr':Frame}{cs cs':List Frame}{w w':World}(h:lone fr cs w=lone fr' cs' w'):fr=fr':=by
 simp only[lone,Machine.mk.injEq]at h;have h2:=h.2.1;have:=congrArg (λ(a:Array Goroutine)=>a[0]?) h2;simp at this;exact this.1
theorem oX {P:Program}{c:Code}{Q:Exit->Act->World->Prop}{a:Act}{w:World}(hQ: ∀e a w,Q e a w->fine e=true/\∀l,e≠.goto l)
  (h:c.wp P (Exit.then ((Code.loop c).wp P Q) Q) a w):(Code.loop c).wp P Q a w:=by
 intro b k cs;obtain⟨e,a1,w1,hq,harr⟩:=h b (.inLoop c::k) cs;cases e with
 |normal=>
  obtain⟨e2,a2,w2,hq2,harr2⟩:=hq b k cs;obtain⟨hf,hng⟩:=hQ e2 a2 w2 hq2;refine⟨e2,a2,w2,hq2,.of_steps (.head step_loop (Steps.trans harr (.one step_inLoop))) ?_⟩;have hst:step P (lone (b.at a1 (.code (.loop c)::k)) cs w1)= .next (lone (b.at a1 (.code c:: .inLoop c::k)) cs w1):=step_loop;cases e2 with
  |normal=>
   refine steps_behind hst harr2 λe=> ?_;have:=congrArg (λf:Frame=>f.todo.length) (m9 e);simp[Frame.at]at this
  |exit id=>
   intro k' hk;refine steps_behind hst (harr2 k' hk) λe=> ?_;have h1:=congrArg (λf:Frame=>f.todo.length) (m9 e);have h2:=qA id k k' hk;simp[Frame.at]at h1;omega
  |goto l=>exact EX Y (hng l)
  |ret=>
   obtain⟨todo,hs⟩:=harr2;refine⟨todo,steps_behind hst hs λe=> ?_⟩;have h1:=congrArg (λf:Frame=>f.mode) (m9 e);simp[Frame.at]at h1
  |panic ch=>simp[fine]at hf
  |outgrown=>simp[fine]at hf
 |exit id=>exact⟨_,a1,w1,hq,.of_steps (.one step_loop) (.pass (x:= .inLoop c) rfl (λ_ _=> .inl (by simp)) harr)⟩
 |goto l=>exact⟨_,a1,w1,hq,.of_steps (.one step_loop) (.pass (x:= .inLoop c) rfl (λ_ _=> .inl (by simp)) harr)⟩
 |ret=>exact⟨_,a1,w1,hq,.of_steps (.one step_loop) (.pass (x:= .inLoop c) rfl (λ_ _=> .inl (by simp)) harr)⟩
 |panic ch=>exact⟨_,a1,w1,hq,.of_steps (.one step_loop) (.pass (x:= .inLoop c) rfl (λ_ _=> .inl (by simp)) harr)⟩
 |outgrown=>exact⟨_,a1,w1,hq,.of_steps (.one step_loop) (.pass (x:= .inLoop c) rfl (λ_ _=> .inl (by simp)) harr)⟩
section
variable {K:Ctx}{c x y:Code}{E E':St}{Q:Exit->St->Prop}{sl:List (Nat×SV)}{ow:List (Nat×Option Own)}{nx:Nat}
theorem T.sub (h: ∀a w,Rel K E a w->Rel K E' a w)(k:T K c E' Q):T K c E Q:=⟨λa w hr=>k.out a w (h a w hr)⟩
theorem T.mono {Q':Exit->St->Prop}(k:T K c E Q)(h: ∀e E,Q e E->Q' e E):T K c E Q':=⟨λa w hr=>wp_mono (k.out a w hr) λe a w ⟨hf,E',hq,hr⟩=>⟨hf,E',h _ _ hq,hr⟩⟩
theorem T.skip (h:Q .normal E):T K .skip E Q:=⟨λa w hr=>wp_skip ⟨rfl,E,h,hr⟩⟩
theorem T.label {l:Nat}(h:Q .normal E):T K (.label l) E Q:=⟨λa w hr=>wp_label ⟨rfl,E,h,hr⟩⟩
theorem T.exit {id:Nat}(h:Q (.exit id) E):T K (.exit id) E Q:=⟨λa w hr=>wp_exit ⟨rfl,E,h,hr⟩⟩
theorem T.ret (h:Q .ret E):T K .ret E Q:=⟨λa w hr=>wp_ret ⟨rfl,E,h,hr⟩⟩
theorem T.seq (h:T K x E (sq K y Q)):T K (.seq x y) E Q:=
 ⟨λa w hr=>wp_seq (wp_mono (h.out a w hr) λe a w ⟨hf,E',hq,hr'⟩=>by
  cases e with
  |normal=>exact hq.out a w hr'
  |panic ch=>simp[fine]at hf
  |outgrown=>simp[fine]at hf
  |_=>exact⟨rfl,E',hq,hr'⟩)⟩
theorem T.block {id:Nat}(h:T K c E (bk id Q)):T K (.block id c) E Q:=
 ⟨λa w hr=>wp_block (wp_mono (h.out a w hr) λe a w ⟨hf,E',hq,hr'⟩=>by
  cases e with
  |exit i=>
   simp only[bk]at hq;simp only[Exit.inBlock];by_cases e:i=id
   ·subst e;rw[E6 Y];rw[Hq]at hq;exact⟨rfl,E',hq,hr'⟩
   ·rw[E4 e];have:Nat.beq i id=false:=by
     cases hb:Nat.beq i id with
     |false=>rfl
     |true=>exact EX (FT hb) e
    rw[this]at hq;exact⟨rfl,E',hq,hr'⟩
  |panic ch=>simp[fine]at hf
  |outgrown=>simp[fine]at hf
  |_=>exact⟨rfl,E',hq,hr'⟩)⟩
theorem T.loop (hg: ∀l E,¬Q (.goto l) E)(h:T K c E (lp K c Q)):T K (.loop c) E Q:=
 ⟨λa w hr=>oX (λe a w ⟨hf,E',hq,_⟩=>⟨hf,λl e=>hg l E' (e▸hq)⟩) (wp_mono (h.out a w hr) λe a w ⟨hf,E',hq,hr'⟩=>by
  cases e with
  |normal=>exact hq.out a w hr'
  |panic ch=>simp[fine]at hf
  |outgrown=>simp[fine]at hf
  |_=>exact⟨rfl,E',hq,hr'⟩)⟩
theorem T.cond {f b:Bool}{o:Operand}(hc:E.f.get o=some (.val f (.bool b)))(ht:b=true->T K x E Q)(hf:b=false->T K y E Q):T K (.cond o x y) E Q:=
 ⟨λa w hr=>by
  obtain⟨φ,hφ⟩:=hr;obtain⟨hv,_⟩:=ah hφ hc;generalize he:a.eval o=v at hv;cases hv;exact wp_cond_split he (λhb=>(ht hb).out a w ⟨φ,hφ⟩) (λhb=>(hf hb).out a w ⟨φ,hφ⟩)⟩
theorem T.ct {f:Bool}{o:Operand}(hc:E.f.get o=some (.val f (.bool true)))(ht:T K x E Q):T K (.cond o x y) E Q:= .cond hc (λ_=>ht) (λh=>by cases h)
theorem T.cf {f:Bool}{o:Operand}(hc:E.f.get o=some (.val f (.bool false)))(hf:T K y E Q):T K (.cond o x y) E Q:= .cond hc (λh=>by cases h) (λ_=>hf)
theorem T.cd {f:Bool}{p:Prop}[Decidable p]{o:Operand}(hc:E.f.get o=some (.val f (.bool (decide p))))(ht:p->T K x E Q)(hf: ¬p->T K y E Q):T K (.cond o x y) E Q:=
 .cond hc (λh=>ht (FV h)) (λh=>hf (of_decide_eq_false h))
theorem T.region {id:Nat}{ops:Array Oper}(h:TO K ops ops.toList E (Q .normal)):T K (.region id ops false) E Q:=
 ⟨λa w hr=>wp_region_list (h.out a w _ hr λE' a' w' hq hr'=>⟨rfl,E',hq,hr'⟩)⟩
theorem Rel.frz {s o:Nat}{e:TypeId}{sz:Nat}{fr:Bool}{rows:List (List PV)}(hM: ∀b,¬K.M b)(hs:lk sl s=some (.ref o))(ho:(St.mk sl ow nx).f.own o=some (.sl e sz fr rows))(a:Act)(w:World)(h:Rel K ⟨sl,ow,nx⟩ a w):
  Rel K ⟨(s,.val fr (.sl rows))::sl,(o,none)::ow,nx⟩ a w:=by
 obtain⟨φ,hφ⟩:=h;have hown': ∀q c,(St.mk ((s,.val fr (.sl rows))::sl) ((o,none)::ow) nx).f.own q=some c->q≠o/\(St.mk sl ow nx).f.own q=some c:=by
  intro q c hq;simp only[St.f,ak]at hq;by_cases e:o=q;·rw[E6 e]at hq;cases hq
  ·rw[E4 e]at hq;exact⟨Ne.symm e,hq⟩
 have hZ: ∀f b,Zf K (St.mk sl ow nx).f φ f b->Zf K (St.mk ((s,.val fr (.sl rows))::sl) ((o,none)::ow) nx).f φ f b:=
  λf b hb=>⟨⟨hb.1.1,λq c hq=>hb.1.2 q c (hown' q c hq).2⟩,hb.2⟩
 refine⟨φ,hφ.df,hφ.sz,hφ.old,hφ.kept,?_,?_,?_,?_,?_,?_⟩
 ·intro q c hq;exact(hφ.own q c (hown' q c hq).2).mono (λ_ _=>rfl) λf b hb _=>⟨hZ f b hb,rfl⟩
 ·intro q c g hq;exact hφ.mine q c g (hown' q c hq).2
 ·intro q c hq;exact hφ.inU q c (hown' q c hq).2
 ·intro q q' c c' g hq hq';exact hφ.dis q q' c c' g (hown' q c hq).2 (hown' q' c' hq').2
 ·intro t sv hsv;rcases slot_put t sv hsv with ⟨rfl,rfl⟩|⟨_,h⟩
  ·obtain⟨v,hv,hr⟩:=hφ.slot t _ hs;refine⟨v,hv,?_⟩;simp only[bg,aE]at hr;subst hr;obtain⟨xs,hwn,hl,h1,h2⟩:=hφ.own o _ ho;have hl':L2 (Rep w (Zf K (St.mk ((t,.val fr (.sl rows))::sl) ((o,none)::ow) nx).f φ fr)) xs rows.flatten:=Rep.monoL (λb hb _=>⟨hZ fr b hb,rfl⟩) hl;have hcell:=λg hg=>hwn.cells (g:=g) hg;have hlt:=hwn.lt;rcases hwn.2 with ⟨hv0,hn⟩|⟨g,cap,cur,hv0,_,hgc,hnc,hcm,_⟩
   ·show Rep w _ (φ o) (.sl rows);rw[hv0];have:rows=[]:=EQ hn;subst this;exact .nilsl
   ·show Rep w _ (φ o) (.sl rows);have hm:=hφ.mine o _ g ho (by rw[hv0];exact .inl Y);have hge:K.w0.heap.size<=g:=hm.resolve_right (hM g);rw[hv0]at hcell hlt⊢;refine .sl g 0 cap sz rows xs ⟨⟨.inl hge,λq c hq hvq=> ?_⟩,λ_=>K.hF _ hge⟩ (hlt g Y).2 h1 h2 (λj v hj=> ?_) hnc hcm hl'
    ·obtain⟨hne,hq'⟩:=hown' q c hq;exact hne (hφ.dis q o c _ g hq' ho hvq (by rw[hv0];exact .inl Y))
    ·have:=hcell g Y j v hj;rw[bE]at this;exact ce hgc this
  ·obtain⟨v,hv,hr⟩:=hφ.slot t sv h;exact⟨v,hv,hr.mono (hφ.sin t sv h) (λf b hb _=>⟨hZ f b hb,rfl⟩) (λ_ _=>rfl)⟩
 ·intro t sv hsv;rcases slot_put t sv hsv with ⟨rfl,rfl⟩|⟨_,h⟩;·trivial
  ·exact hφ.sin t sv h
theorem Rel.own0 {s:Nat}(e:TypeId)(sz:Nat)(hs:lk sl s=some .nilsl)(a:Act)(w:World)(h:Rel K ⟨sl,ow,nx⟩ a w):
  Rel K ⟨(s,.ref nx)::sl,(nx,some (.sl e sz true []))::ow,nx+1⟩ a w:=by
 obtain⟨φ,hφ⟩:=h;have hadd:=hφ.add (Below.refl _ _) nx [.sl e sz true []] [.slice none 0 0] (λi h1 _ h3=>EX h3 (IG.2 h1)) Y (λi c v hc hv=>by
  cases i with
  |zero=>
   simp at hc hv;subst hc hv;exact⟨⟨[],World.ownsRow_nil w 0 e sz,.nil,by simp,by simp⟩,λg hg=>by simp[VB,aC]at hg⟩
  |succ i=>simp at hc) (λi j v v' g hi hj hv _=>by cases i<;>cases j<;>simp_all)
 have hU:eQ (· <nx) nx [.sl e sz true []]=(· <nx+1):=(by funext i;simp only[eQ,eq_iff_iff,FY];omega);have h2:RelW K (St.mk sl ((nx,some (.sl e sz true []))::ow) (nx+1)).f (· <nx+1) (bQ φ nx [.slice none 0 0]) a w:=by
  have:=tO sl ow nx (nx+1) [.sl e sz true []];simp only[c6]at this;rw[this,<-hU];exact hadd
 refine⟨_,h2.df,h2.sz,h2.old,h2.kept,h2.own,h2.mine,h2.inU,h2.dis,?_,?_⟩
 ·intro t sv hsv;rcases slot_put t sv hsv with ⟨rfl,rfl⟩|⟨_,h⟩
  ·obtain⟨v,hv,hr⟩:=hφ.slot t _ hs;refine⟨v,hv,?_⟩;simp only[bg,aE]at hr⊢;rw[hr];simp[bQ]
  ·exact h2.slot t sv h
 ·intro t sv hsv;rcases slot_put t sv hsv with ⟨rfl,rfl⟩|⟨_,h⟩;·exact Fd _
  ·exact h2.sin t sv h
def idx:List Nat->Nat->Option Nat
 | [],_=>none
 |i::is,o=>match Nat.beq i o with
  |true=>some 0
  |false=>match idx is o with
   |some k=>some (k+1)
   |none=>none
def d4 (ids:List Nat):SV->Option SV
 | .val fr p=>some (.val fr p)
 | .nilsl=>some .nilsl
 | .ref o=>match idx ids o with
  |some k=>some (.ref k)
  |none=>none
 | .optr o i off st=>match idx ids o with
  |some k=>some (.optr k i off st)
  |none=>none
 | .fptr fr cs=>some (.fptr fr cs)
 | .fix v p=>some (.fix v p)
 | .fref f o=>match idx ids o with
  |some k=>some (.fref f k)
  |none=>none
 | .eq u o=>match idx ids o with
  |some k=>some (.eq u k)
  |none=>none
 | .tupB _ _=>none
def fY (E:EnvF)(ids:List Nat):List Nat->List (Nat×SV)
 | []=>[]
 |s::ss=>match E.slot s with
  |some sv=>match d4 ids sv with
   |some sv'=>(s,sv')::fY E ids ss
   |none=>fY E ids ss
  |none=>fY E ids ss
def kz (E:EnvF):Nat->List Nat->List (Nat×Option Own)
 |_,[]=>[]
 |k,o::os=>(k,E.own o)::kz E (k+1) os
def Ee:Option SV->Nat
 |some (.ref o)=>o
 |some (.optr o _ _ _)=>o
 |some (.eq _ o)=>o
 |_=>0
def iu (E:EnvF):List Nat->List Nat
 | []=>[]
 |s::ss=>Ee (E.slot s)::iu E ss
def dup:List Nat->Bool
 | []=>false
 |i::is=>match idx is i with
  |some _=>true
  |none=>dup is
def lD (E:St)(keep os:List Nat):St:=⟨fY E.f (iu E.f os) keep,kz E.f 0 (iu E.f os),os.length⟩
theorem eE: ∀(is:List Nat) (o k:Nat),idx is o=some k->is[k]? =some o
 | [],o,k,h=>by simp[idx]at h
 |i::is,o,k,h=>by
  simp only[idx]at h;split at h
  ·rename_i hb;obtain rfl:=E7 h;simp[FT hb]
  ·split at h
   ·rename_i k' hk;obtain rfl:=E7 h;simpa using eE is o k' hk
   ·cases h
theorem we: ∀(is:List Nat) (o:Nat),idx is o=none->o∉is
 | [],o,_=>by simp
 |i::is,o,h=>by
  simp only[idx]at h;split at h;·cases h
  ·rename_i hb;split at h;·cases h
   ·rename_i hn;intro hm;cases hm with
    |head=>rw[Hq]at hb;cases hb
    |tail _ hm=>exact we is o hn hm
theorem fW: ∀(is:List Nat),dup is=false->∀(i j o:Nat),is[i]? =some o->is[j]? =some o->i=j
 | [],_,i,j,o,h,_=>by simp at h
 |x::is,hd,i,j,o,hi,hj=>by
  simp only[dup]at hd;split at hd;·cases hd
  ·rename_i hn;have hx:=we is x hn;cases i with
   |zero=>
    cases j with
    |zero=>rfl
    |succ j=>simp at hi hj;subst hi;exact EX (EC hj) hx
   |succ i=>
    cases j with
    |zero=>simp at hi hj;subst hj;exact EX (EC hi) hx
    |succ j=>simp at hi hj;rw[fW is hd i j o hi hj]
theorem qd (V:EnvF): ∀(is:List Nat) (n o:Nat),(lk (kz V n is) o).join=if n<=o then(is[o-n]?).bind V.own else none
 | [],n,o=>by simp[kz,lk]
 |i::is,n,o=>by
  simp only[kz,ak];by_cases e:n=o;·subst e;simp
  ·rw[E4 e,qd V is (n+1) o];by_cases h:n+1<=o
   ·rw[E6 h,E6 (by omega)];obtain⟨k,rfl⟩: ∃k,o=n+1+k:=⟨o-(n+1),by omega⟩;have e1:n+1+k-(n+1)=k:=(by omega);have e2:n+1+k-n=k+1:=(by omega);rw[e1,e2,Fl]
   ·rw[E4 h,E4 (by omega)]
theorem gA (V:EnvF)(ids:List Nat): ∀(ss:List Nat) (s:Nat) (sv:SV),lk (fY V ids ss) s=some sv->∃sv0,V.slot s=some sv0/\d4 ids sv0=some sv
 | [],s,sv,h=>by simp[fY,lk]at h
 |t::ss,s,sv,h=>by
  simp only[fY]at h;split at h
  ·rename_i sv0 hs;split at h
   ·rename_i sv1 hr;rw[ak]at h;by_cases e:t=s
    ·subst e;rw[E6 Y]at h;obtain rfl:=E7 h;exact⟨sv0,hs,hr⟩
    ·rw[E4 e]at h;exact gA V ids ss s sv h
   ·exact gA V ids ss s sv h
  ·exact gA V ids ss s sv h
theorem Rel.canon {keep os:List Nat}(hd:dup (iu E.f os)=false)(a:Act)(w:World)(h:Rel K E a w):Rel K (lD E keep os) a w:=by
 obtain⟨φ,hφ⟩:=h;generalize hids:iu E.f os=ids at hd;have hlen:ids.length=os.length:=by
  rw[<-hids];clear hids hd hφ
  induction os with
  |nil=>rfl
  |cons s os ih=>simp[iu,ih]
 have hown: ∀k c,(lD E keep os).f.own k=some c->∃o,ids[k]? =some o/\E.f.own o=some c:=by
  intro k c hk
  change (lk (kz E.f 0 (iu E.f os)) k).join=some c at hk
  rw[hids,qd E.f ids 0 k,E6 (Er _),Nat.sub_zero]at hk;exact HT.1 hk
 let φ':Nat->Value:=λk=>φ (ids.getD k 0);have hφ': ∀k o,ids[k]? =some o->φ' k=φ o:=λk o hk=>(by simp[φ',List.getD,hk]);have hZ: ∀f b,Zf K E.f φ f b->Zf K (lD E keep os).f φ' f b:=by
  intro f b hb;refine⟨⟨hb.1.1,λk c hk hv=> ?_⟩,hb.2⟩;obtain⟨o,ho,hc⟩:=hown k c hk;rw[hφ' k o ho]at hv;exact hb.1.2 o c hc hv
 have hlt: ∀k (o:Nat),ids[k]? =some o->k<os.length:=λk o hk=>(by rw[<-hlen];exact(E8.1 hk).1);refine⟨φ',hφ.df,hφ.sz,hφ.old,hφ.kept,?_,?_,?_,?_,?_,?_⟩
 ·intro k c hk;obtain⟨o,ho,hc⟩:=hown k c hk;rw[hφ' k o ho];exact(hφ.own o c hc).mono (λ_ _=>rfl) λf b hb _=>⟨hZ f b hb,rfl⟩
 ·intro k c g hk hv;obtain⟨o,ho,hc⟩:=hown k c hk;rw[hφ' k o ho]at hv;exact hφ.mine o c g hc hv
 ·intro k c hk;obtain⟨o,ho,hc⟩:=hown k c hk;exact hlt k o ho
 ·intro k k' c c' g hk hk' hv hv';obtain⟨o,ho,hc⟩:=hown k c hk;obtain⟨o',ho',hc'⟩:=hown k' c' hk';rw[hφ' k o ho]at hv;rw[hφ' k' o' ho']at hv';obtain rfl:=hφ.dis o o' c c' g hc hc' hv hv';exact fW ids hd k k' o ho ho'
 ·intro s sv hs
  change lk (fY E.f (iu E.f os) keep) s=some sv at hs
  rw[hids]at hs;obtain⟨sv0,h0,hr⟩:=gA E.f ids keep s sv hs;obtain⟨v,hv,hrel⟩:=hφ.slot s sv0 h0;refine⟨v,hv,?_⟩;cases sv0 with
  |val fr p=>simp only[d4,E9]at hr;subst hr;exact Rep.mono (λb hb _=>⟨hZ fr b hb,rfl⟩) hrel
  |nilsl=>simp only[d4,E9]at hr;subst hr;exact hrel
  |ref o=>
   simp only[d4]at hr;split at hr
   ·rename_i k hk;obtain rfl:=E7 hr;simp only[bg,aE]at hrel⊢;rw[hφ' k o (eE ids o k hk)];exact hrel
   ·cases hr
  |optr o i off st=>
   simp only[d4]at hr;split at hr
   ·rename_i k hk;obtain rfl:=E7 hr;simp only[bg,aE]at hrel⊢;rw[hφ' k o (eE ids o k hk)];exact hrel
   ·cases hr
  |fptr fr cs=>
   simp only[d4,E9]at hr;subst hr;obtain⟨b,o,xs,e,hz,hb,hl,h1,hc⟩:=hrel;exact⟨b,o,xs,e,hZ fr b hz,hb,Rep.monoL (λb hb _=>⟨hZ fr b hb,rfl⟩) hl,h1,hc⟩
  |fix u p=>simp only[d4,E9]at hr;subst hr;exact⟨hrel.1,Rep.mono (λb hb _=>⟨hZ false b hb,rfl⟩) hrel.2⟩
  |fref f o=>
   simp only[d4]at hr;split at hr
   ·rename_i k hk;obtain rfl:=E7 hr;simp only[bg,aE]at hrel⊢;rw[hφ' k o (eE ids o k hk)];exact hrel
   ·cases hr
  |eq u o=>
   simp only[d4]at hr;split at hr
   ·rename_i k hk;obtain rfl:=E7 hr;simp only[bg,aE]at hrel⊢;rw[hφ' k o (eE ids o k hk)];exact hrel
   ·cases hr
  |tupB ag l=>simp[d4]at hr
 ·intro s sv hs
  change lk (fY E.f (iu E.f os) keep) s=some sv at hs
  rw[hids]at hs;obtain⟨sv0,h0,hr⟩:=gA E.f ids keep s sv hs;cases sv0 with
  |val fr p=>simp only[d4,E9]at hr;subst hr;trivial
  |nilsl=>simp only[d4,E9]at hr;subst hr;trivial
  |ref o=>
   simp only[d4]at hr;split at hr
   ·rename_i k hk;obtain rfl:=E7 hr;exact hlt k o (eE ids o k hk)
   ·cases hr
  |optr o i off st=>
   simp only[d4]at hr;split at hr
   ·rename_i k hk;obtain rfl:=E7 hr;exact hlt k o (eE ids o k hk)
   ·cases hr
  |fptr fr cs=>simp only[d4,E9]at hr;subst hr;trivial
  |fix v p=>simp only[d4,E9]at hr;subst hr;trivial
  |fref f o=>
   simp only[d4]at hr;split at hr
   ·rename_i k hk;obtain rfl:=E7 hr;exact hlt k o (eE ids o k hk)
   ·cases hr
  |eq u o=>
   simp only[d4]at hr;split at hr
   ·rename_i k hk;obtain rfl:=E7 hr;exact hlt k o (eE ids o k hk)
   ·cases hr
  |tupB ag l=>simp[d4]at hr
theorem T.canon {keep os:List Nat}(hd:dup (iu E.f os)=false)(k:T K c (lD E keep os) Q):T K c E Q:= .sub (Rel.canon hd) k
end
def PV.flat:PV->Bool
 | .bool _| .int _ _| .str _| .nilp| .nilf| .raw _=>true
 |_=>false
theorem Rep.flat {w:World}{Z Z':Nat->Prop}{v:Value}{p:PV}(h:Rep w Z v p)(hf:p.flat=true):Rep w Z' v p:=by
 cases h<;>first|exact .bool _|exact .int _ _|exact .str _|exact .nilp|exact .nilf|(refine .raw _ ?_;assumption)|(simp[PV.flat]at hf)
inductive Ret (P:Program)(E:EnvF)(al:Bool):List ResultVar->List RV->List Nat->Prop
 |nil:Ret P E al [] [] []
 |val {t:Tmp} {sv:SV} {fr:Bool} {p:PV} {rs:List ResultVar} {vs:List RV} {os:List Nat}:E.slot t=some sv->sv.ff=some (fr,p)->(al=false->fr=true)->Ret P E al rs vs os->Ret P E al (.tmp t::rs) (.val p::vs) os
 |own {t:Tmp} {o:Nat} {e:TypeId} {sz:Nat} {fr:Bool} {rows:List (List PV)} {rs:List ResultVar} {vs:List RV} {os:List Nat}:E.slot t=some (.ref o)->E.own o=some (.sl e sz fr rows)->(al=false->fr=true∨∀r∈rows,∀p∈r,p.flat=true)->o∉os->Ret P E al rs vs os->
   Ret P E al (.tmp t::rs) (.own e sz rows::vs) (o::os)
 |cell {t:Tmp} {ty:TypeId} {q:Nat} {fr:Bool} {row:List PV} {p:PV} {rs:List ResultVar} {vs:List RV} {os:List Nat} (_:E.slot t=some (.optr q 0 0 0)) (_:E.own q=some (.box fr row)) (_:iR P ty row=some p) (_:al=false->fr=true) (_:Ret P E al rs vs os):Ret P E al (.cell t ty::rs) (.val p::vs) os
 |ownN {t:Tmp} {e:TypeId} {sz:Nat} {rs:List ResultVar} {vs:List RV} {os:List Nat}:E.slot t=some .nilsl->Ret P E al rs vs os->Ret P E al (.tmp t::rs) (.own e sz []::vs) os
def iV:Nat->List PV->List (Nat×SV)
 |_,[]=>[]
 |k,p::ps=>(k,.val false p)::iV (k+1) ps
theorem md: ∀(ps:List PV) (k s:Nat) (sv:SV),lk (iV k ps) s=some sv->∃j p,s=k+j/\ps[j]? =some p/\sv= .val false p
 | [],k,s,sv,h=>by simp[iV,lk]at h
 |p::ps,k,s,sv,h=>by
  simp only[iV,ak]at h;by_cases e:k=s
  ·rw[E6 e]at h;obtain rfl:=E7 h;exact⟨0,p,by omega,by simp,rfl⟩
  ·rw[E4 e]at h;obtain⟨j,q,h1,h2,h3⟩:=md ps (k+1) s sv h;exact⟨j+1,q,by omega,by simpa using h2,h3⟩
def cE (tmps:Array Value):ResultVar->Sem Value
 | .tmp t=>pure (tmps.getD t undef)
 | .cell a t=>do loadVar t (<-asAddr (tmps.getD a undef))
theorem zB {K:Ctx}{E:EnvF}{U:Nat->Prop}{φ:Nat->Value}{a:Act}{w:World}(h:RelW K E U φ a w)(hM: ∀b,¬K.M b){al:Bool}{rs:List ResultVar}{vs:List RV}{os:List Nat}(hr:Ret K.P E al rs vs os):
  ∃ws:List Value,(rs.mapM (cE a.tmps)).run K.P w= .ok ws w/\
   L2 (λv r=>match r with
    | .val p=> ∃fr,(al=false->fr=true)/\Rep w (Zf K E φ fr) v p
    | .own e sz rows=> ∃fr,(al=false->fr=true∨∀r∈rows,∀p∈r,p.flat=true)/\aA w (Zf K E φ) v (.sl e sz fr rows)) ws vs/\
   (∀v g,v∈RV.vals vs ws->VB v g->K.w0.heap.size<=g/\∃o c,o∈os/\E.own o=some c/\VB (φ o) g)/\
   (∀(i j:Nat) (v v':Value) (g:Nat),(RV.vals vs ws)[i]? =some v->(RV.vals vs ws)[j]? =some v'->VB v g->VB v' g->i=j):=by
 induction hr with
 |nil=>exact⟨[],rfl,.nil,by simp[RV.vals],by simp[RV.vals]⟩
 | @val t sv fr p rs vs os hs hf hfr _ ih=>
  obtain⟨ws,h1,h2,h3,h4⟩:=ih;have hx:E.get (.tmp t)=some sv:=hs;have hrep:=bK h hx hf;exact⟨a.eval (.tmp t)::ws,by simp only[Gf,cE,EM,Ev,EG];rw[h1];rfl,.cons ⟨fr,hfr,hrep⟩ h2,h3,h4⟩
 | @own t o e sz fr rows rs vs os hs ho hfr hno _ ih=>
  obtain⟨ws,h1,h2,h3,h4⟩:=ih;have hx:E.get (.tmp t)=some (.ref o):=hs;obtain⟨hv,_⟩:=ah h hx;simp only[bg,aE]at hv;have hown:=h.own o _ ho;have hmine: ∀g,VB (φ o) g->K.w0.heap.size<=g:=λg hg=>(h.mine o _ g ho hg).resolve_right (hM g);refine⟨a.eval (.tmp t)::ws,by simp only[Gf,cE,EM,Ev,EG];rw[h1];rfl,.cons ⟨fr,hfr,by rw[hv];exact hown⟩ h2,?_,?_⟩
  ·intro v g hv2 hg;simp only[RV.vals,ET]at hv2;rcases hv2 with rfl|hv2
   ·rw[hv]at hg;exact⟨hmine g hg,o,_,.head _,ho,hg⟩
   ·obtain⟨h5,o',c',h6,h7⟩:=h3 v g hv2 hg;exact⟨h5,o',c',.tail _ h6,h7⟩
  ·intro i j v v' g hi hj hg hg';simp only[RV.vals]at hi hj;have cross: ∀(k:Nat) u,(RV.vals vs ws)[k]? =some u->VB u g->VB (φ o) g->False:=by
    intro k u hk hu hg2;obtain⟨_,o',c',h6,h7,h8⟩:=h3 u g (EC hk) hu;exact hno (h.dis o' o c' _ g h7 ho h8 hg2▸h6)
   cases i with
   |zero=>
    cases j with
    |zero=>rfl
    |succ j=>
     simp only[GG,E9]at hi;simp only[Fl]at hj;subst hi;rw[hv]at hg;exact(cross j v' hj hg' hg).elim
   |succ i=>
    cases j with
    |zero=>
     simp only[GG,E9]at hj;simp only[Fl]at hi;subst hj;rw[hv]at hg';exact(cross i v hi hg hg').elim
    |succ j=>
     simp only[Fl]at hi hj;rw[h4 i j v v' g hi hj hg hg']
 | @cell t ty q fr row p rs vs os hs hq hp hfr _ ih=>
  obtain⟨ws,h1,h2,h3,h4⟩:=ih;have hx:E.get (.tmp t)=some (.optr q 0 0 0):=hs;obtain⟨u,hu,hrep⟩:=gz (kR (fr:=fr) (cells:=row) h hx (by simp[EnvF.cellsAt,hq,Own.at_])) hp;refine⟨u::ws,?_,.cons ⟨fr,hfr,hrep⟩ h2,h3,h4⟩;obtain⟨hv,_⟩:=ah h hx;obtain⟨g,hg,hv⟩:=hv;have hv':a.tmps.getD t undef= .pointer (some ⟨g,0,none⟩):=by
   have:a.eval (.tmp t)= .pointer (some ⟨g,0,none⟩):=(by simpa using hv);exact this
  have hu':(loadVar ty ⟨g,0,none⟩).run K.P w= .ok u w:=by
   have e:a.eval (.tmp t)= .pointer (some ⟨g,0,none⟩):=hv';rw[e]at hu;simpa[Instr.loadAt,Instr.sureAddr]using hu
  simp only[Gf,cE,hv',asAddr,EM,Ev,EG,hu',h1]
 | @ownN t e sz rs vs os hs _ ih=>
  obtain⟨ws,h1,h2,h3,h4⟩:=ih;have hx:E.get (.tmp t)=some .nilsl:=hs;obtain⟨hv,_⟩:=ah h hx;simp only[bg,aE]at hv;refine⟨a.eval (.tmp t)::ws,by simp only[Gf,cE,EM,Ev,EG];rw[h1];rfl,.cons ⟨true,λ_=> .inl Y,by rw[hv];exact⟨[],World.ownsRow_nil w 0 e sz,.nil,by simp,by simp⟩⟩ h2,?_,?_⟩
  ·intro v g hv2 hg;simp only[RV.vals,ET]at hv2;rcases hv2 with rfl|hv2;·rw[hv]at hg;simp[VB,aC]at hg
   ·exact h3 v g hv2 hg
  ·intro i j v v' g hi hj hg hg';simp only[RV.vals]at hi hj;cases i with
   |zero=>
    simp only[GG,E9]at hi;subst hi;rw[hv]at hg;simp[VB,aC]at hg
   |succ i=>
    cases j with
    |zero=>
     simp only[GG,E9]at hj;subst hj;rw[hv]at hg';simp[VB,aC]at hg'
    |succ j=>
     simp only[Fl]at hi hj;rw[h4 i j v v' g hi hj hg hg']
def Fin (P:Program)(fn:Func)(al:Bool)(res:List RV):Exit->St->Prop
 | .normal,E| .ret,E=> ∃os,Ret P E.f al fn.results.toList res os
 |_,_=>False
theorem Spec.body {P:Program} {f:FuncId} {fn:Func} {c:Code} {al:Bool} {args:List PV} {res:List RV} (hf:P.funcs[f]? =some fn) (hb:fn.body=some c) (hn:(fn.name== "runtime.NumGoroutine")=false) (hl:Nat.ble args.length fn.ntmps=true)
  (h: ∀w0 Z0,T (Ctx.of P w0 Z0 (λ_=>False) fn.ntmps) c ⟨iV 0 args,[],0⟩ (Fin P fn al res)):Spec P f al args res:=by
 refine⟨⟨fn,hf,by rw[hb];rfl,hn⟩,λw Z vs hvs=> ?_⟩;have hle:=F3 hl;have hvl:=hvs.length;refine calls_of_wp hf hb ?_;have hrel:Rel (Ctx.of P w Z (λ_=>False) fn.ntmps) ⟨iV 0 args,[],0⟩ { tmps:=vs.toArray++Array.replicate (fn.ntmps-vs.toArray.size) undef,defers:=[] } w:=by
  refine⟨λ_=>undef,rfl,?_,(λs v hs=>EX hs (FK s)),⟨rfl,rfl,rfl,EO _,λ_ _ _=>rfl⟩,?_,?_,?_,?_,?_,?_⟩;·simp[Ctx.of];omega
  ·intro o c ho;simp[St.f,lk]at ho
  ·intro o c g ho;simp[St.f,lk]at ho
  ·intro o c ho;simp[St.f,lk]at ho
  ·intro o o' c c' g ho;simp[St.f,lk]at ho
  ·intro s sv hs;obtain⟨j,p,rfl,hp,rfl⟩:=md args 0 s sv hs;obtain⟨v,hv,hr⟩:=hvs.get hp;have hj:j<vs.length:=(E8.1 hv).1;refine⟨v,?_,?_⟩
   ·rw[Fy,F8,GK (by simpa using hj)];simp[hv]
   ·refine Rep.mono (Z:=Z) (λb hb _=>⟨⟨⟨.inr hb,λo c ho=> ?_⟩,λe=>by cases e⟩,rfl⟩) hr;simp[St.f,lk]at ho
  ·intro s sv hs;obtain⟨j,p,rfl,hp,rfl⟩:=md args 0 s sv hs;trivial
 refine wp_mono ((h w Z).out _ w hrel) λe a w' ⟨hfe,E,hq,φ,hφ⟩=> ?_;have key:(∃os,Ret P E.f al fn.results.toList res os)->a.defers=[]/\∃v,(results fn a.tmps).run P w'= .ok v w'/\∃rs:List Value,Ending.returned v= .returned (mR rs)/\Below w.heap.size w w'/\RetRel w w' (λb=>al=true/\Z b) rs res:=by
  rintro⟨os,hret⟩;obtain⟨ws,h1,h2,h3,h4⟩:=zB hφ (λ_ hm=>hm) hret;have hk:=hφ.kept;refine⟨hφ.df,mR ws,?_,ws,rfl,⟨hk.os,hk.tape,hk.output,hk.size,λb hb=>hk.block b hb (λhm=>hm)⟩,?_,λv g hv hg=>(h3 v g hv hg).1,h4⟩
  ·have e:results fn a.tmps=(do let vs<-fn.results.mapM (cE a.tmps);pure (if h:vs.size=1 then vs[0]else .tuple vs)):=by
    unfold results;congr
   have h1':(fn.results.toList.mapM (cE a.tmps)).run P w'= .ok ws w':=h1;rw[e,GR];simp only[EM,Hy,h1',EG];cases ws with
   |nil=>rfl
   |cons v ws=>cases ws with
    |nil=>rfl
    |cons v' ws=>rfl
  ·have hz: ∀f b,(al=false->f=true)->Zf (Ctx.of P w Z (λ_=>False) fn.ntmps) E.f φ f b->((al=true/\Z b)∨w.heap.size<=b)/\∀v,v∈RV.vals res ws->¬VB v b:=by
    intro f b hfr hb;refine⟨?_,λv hv e=> ?_⟩
    ·cases al with
     |true=>exact hb.1.1.elim (λh=> .inr h) (λh=> .inl ⟨rfl,h⟩)
     |false=>exact .inr (hb.2 (hfr Y))
    ·obtain⟨_,o,c,_,ho,hg⟩:=h3 v b hv e;exact hb.1.2 o c ho hg
   refine h2.imp λv r hv=> ?_;cases r with
   |val p=>
    obtain⟨fr,hfr,hrep⟩:=hv;exact Rep.mono (λb hb _=>⟨hz fr b hfr hb,rfl⟩) hrep
   |own e sz rows=>
    obtain⟨fr,hfr,xs,ho,hl2,h5,h6⟩:=hv;refine⟨xs,ho,?_,h5,h6⟩;by_cases hfl:al=false->fr=true;·exact Rep.monoL (λb hb _=>⟨hz fr b hfl hb,rfl⟩) hl2
    ·have hfl2: ∀r∈rows,∀p∈r,p.flat=true:=by
      obtain⟨h7,h8⟩:=Classical.not_imp.1 hfl;exact(hfr h7).resolve_left h8
     have hfl3: ∀p∈rows.flatten,p.flat=true:=by
      intro p hp;obtain⟨r,hr,hpr⟩:=Gq.1 hp;exact hfl2 r hr p hpr
     clear ho h5 h6 hfl hfl2 hfr;generalize rows.flatten=ps at hl2 hfl3
     induction hl2 with
     |nil=>exact .nil
     |cons h9 _ ih=>exact .cons (h9.flat (hfl3 _ (.head _))) (ih λp hp=>hfl3 p (.tail _ hp))
 cases e with
 |normal=>exact key hq
 |ret=>exact key hq
 |exit id=>exact hq.elim
 |goto l=>exact hq.elim
 |panic ch=>simp[fine]at hfe
 |outgrown=>simp[fine]at hfe
theorem T.ind {K:Ctx}{c:Code}{Q:Exit->St->Prop}{σ:Type}(Es:σ->St)(Inv:σ->Prop)(μ:σ->Nat)(x0:σ)(h0:Inv x0)(hg: ∀l E,¬Q (.goto l) E)
  (h: ∀x,Inv x->(∀y,Inv y->μ y<μ x->T K (.loop c) (Es y) Q)->T K c (Es x) (lp K c Q)):T K (.loop c) (Es x0) Q:=by
 have key: ∀n x,μ x=n->Inv x->T K (.loop c) (Es x) Q:=by
  intro n
  induction n using Nat.strongRecOn with
  |_ n ih=>
   intro x hx hi;exact .loop hg (h x hi λy hy hlt=>ih (μ y) (hx▸hlt) y Y hy)
 exact key _ x0 Y h0
theorem T.list {K:Ctx}{c:Code}{Q:Exit->St->Prop}{α:Type}(l:List α)(Es:Nat->List α->List α->St)(hg: ∀l E,¬Q (.goto l) E)
  (step: ∀n pre x post,l=pre++x::post->n=pre.length->T K (.loop c) (Es (n+1) (pre++[x]) post) Q->T K c (Es n pre (x::post)) (lp K c Q))
  (fin:T K c (Es l.length l []) (lp K c Q)):T K (.loop c) (Es 0 [] l) Q:=by
 have key: ∀post pre n,l=pre++post->n=pre.length->T K (.loop c) (Es n pre post) Q:=by
  intro post
  induction post with
  |nil=>
   intro pre n h hn;rw[FU]at h;subst h hn;exact .loop hg fin
  |cons x post ih=>
   intro pre n h hn;exact .loop hg (step n pre x post h hn (ih (pre++[x]) (n+1) (by simp[h]) (by simp[hn])))
 exact key l [] 0 Y Y
def cI (n:Int):List PV:=[.int .i64 n]
def aq (l:List Int):PV:= .sl (l.map cI)
def cR (r:Int×Int):List PV:=[.int .i64 r.1,.int .i64 r.2]
def dm (d:List (Int×Int)):PV:= .sl (d.map cR)
def cD (d:List (Int×Int)):List PV:=[dm d]
def ao (d:List (List (Int×Int))):PV:= .sl (d.map cD)
def cL (l:List Int):List PV:=[aq l]
def bC (l:List (List Int)):PV:= .sl (l.map cL)
structure Con where
 kind:Int
 vars:List Int
 coefs:List Int
 op:Int
 rhs:Int
 rows:List (List Int)
 b:Int
def cC (c:Con):List PV:=[.int .i64 c.kind,aq c.vars,aq c.coefs,.int .i64 c.op,.int .i64 c.rhs,bC c.rows,.int .i64 c.b]
theorem aM {α:Type}{enc:α->List PV}{l pre post:List α}{x:α}{n:Nat}(hl:l=pre++x::post)(hn:n=pre.length):(l.map enc)[(n:Int).toNat]? =some (enc x):=by
 subst hl hn;simp
theorem Ret.v {P:Program}{E:EnvF}{al:Bool}{t:Tmp}{sv:SV}{fr:Bool}{p p':PV}{rs:List ResultVar}{vs:List RV}{os:List Nat}(hs:E.slot t=some sv)(hf:sv.ff=some (fr,p))(he:p=p')(hfr:al=false->fr=true)(h:Ret P E al rs vs os):
  Ret P E al (.tmp t::rs) (.val p'::vs) os:=he▸.val hs hf hfr h
theorem Ret.o {P:Program}{E:EnvF}{al:Bool}{t:Tmp}{o:Nat}{e:TypeId}{sz:Nat}{fr:Bool}{rows rows':List (List PV)}{rs:List ResultVar}{vs:List RV}{os:List Nat}(hs:E.slot t=some (.ref o))(ho:E.own o=some (.sl e sz fr rows))(he:rows=rows')
  (hfr:al=false->fr=true∨∀r∈rows,∀p∈r,p.flat=true) (hn:o∉os) (h:Ret P E al rs vs os):Ret P E al (.tmp t::rs) (.own e sz rows'::vs) (o::os):=he▸.own hs ho hfr hn h
theorem Ret.c {P:Program}{E:EnvF}{al:Bool}{t:Tmp}{ty:TypeId}{q:Nat}{fr:Bool}{row:List PV}{p p':PV}{rs:List ResultVar}{vs:List RV}{os:List Nat}(hs:E.slot t=some (.optr q 0 0 0))(hq:E.own q=some (.box fr row))(hp:iR P ty row=some p)(he:p=p')(hfr:al=false->fr=true)(h:Ret P E al rs vs os):
  Ret P E al (.cell t ty::rs) (.val p'::vs) os:=he▸.cell hs hq hp hfr h
theorem xX {l:List Int}: ∀r∈l.map cI,∀p∈r,p.flat=true:=by
 intro r hr p hp;obtain⟨x,_,rfl⟩:=EH.1 hr;simp[cI]at hp;subst hp;rfl
theorem tM {l:List (Int×Int)}: ∀r∈l.map cR,∀p∈r,p.flat=true:=by
 intro r hr p hp;obtain⟨x,_,rfl⟩:=EH.1 hr;simp[cR]at hp;rcases hp with rfl|rfl<;>rfl
theorem jE {l:List Int}: ∀r∈l.map cI,r.length=1:=by
 intro r hr;obtain⟨x,_,rfl⟩:=EH.1 hr;rfl
theorem yU {l:List (Int×Int)}: ∀r∈l.map cR,r.length=2:=by
 intro r hr;obtain⟨x,_,rfl⟩:=EH.1 hr;rfl
theorem af {n:Int}(h1: -9223372036854775808<=n)(h2:n<=9223372036854775807):IntKind.i64.wrap n=n:=by
 simp only[IntKind.wrap,IntKind.bits,IntKind.signed,Fe,EL,ER,ge_iff_le];split<;>omega
def gV (V V':EnvF)(o:Oper):Prop:= ∀x,x∈o.op.operands->V'.get x=V.get x/\∀sv,V.get x=some sv->sv.inU (λq=>V'.own q=V.own q)
section
variable {V V':EnvF}{P:Program}
theorem nQ: ∀(l:List (Nat×Operand)),(∀x∈l,V'.get x.2=V.get x.2)->fQ V' l=fQ V l
 | [],_=>rfl
 |(i,x)::l,h=>by
  simp only[fQ];rw[h (i,x) (.head _),nQ l λy hy=>h y (.tail _ hy)]
theorem eI: ∀(l:List Operand),(∀x∈l,V'.get x=V.get x)->dB V' l=dB V l
 | [],_=>rfl
 |x::l,h=>by
  simp only[dB];rw[h x (.head _),eI l λy hy=>h y (.tail _ hy)]
theorem lg (sz:Nat): ∀(l:List (Nat×Operand)) (k:Nat),(∀x∈l,V'.get x.2=V.get x.2)->dw V' sz k l=dw V sz k l
 | [],_,_=>rfl
 |(i,x)::l,k,h=>by
  simp only[dw];rw[h (i,x) (.head _),lg sz l (k+1) λy hy=>h y (.tail _ hy)]
theorem u7 {sv:SV}(h:sv.inU (λq=>V'.own q=V.own q)):V'.pv sv=V.pv sv:=by
 cases sv<;>simp only[EnvF.pv];rename_i o;have:V'.own o=V.own o:=h;rw[this]
theorem lF (al:Bool): ∀(l:List Operand),(∀x∈l,V'.get x=V.get x/\∀sv,V.get x=some sv->sv.inU (λq=>V'.own q=V.own q))->cz V' al l=cz V al l
 | [],_=>rfl
 |x::l,h=>by
  simp only[cz];have:qO V' al x=qO V al x:=by
   obtain⟨h1,h2⟩:=h x (.head _);unfold qO;rw[h1];cases hg:V.get x with
   |none=>rfl
   |some sv=>simp only[];rw[u7 (h2 sv hg)]
  rw[this,lF al l λy hy=>h y (.tail _ hy)]
theorem wH {sv:SV}(h:sv.inU (λq=>V'.own q=V.own q)):V'.cellsAt sv=V.cellsAt sv:=by
 cases sv with
 |optr o i off st=>
  have:V'.own o=V.own o:=h;simp only[EnvF.cellsAt];rw[this]
 |val fr p=>cases p<;>rfl
 |fix u p=>cases p<;>rfl
 |_=>rfl
theorem wJ {t:TypeId}{l:List (Nat×Operand)}(h: ∀x∈l,V'.get x.2=V.get x.2):kA P V' t l=kA P V t l:=by
 unfold kA;rw[nQ l h]
theorem uZ {sv:SV}(h:sv.inU (λq=>V'.own q=V.own q)):ik V' sv=ik V sv:=by
 cases sv with
 |ref o=>
  have:V'.own o=V.own o:=h;simp only[ik];rw[this]
 |_=>rfl
theorem tj {sv:SV}(h:sv.in1 (λq=>V'.own q=V.own q)):ik V' sv=ik V sv:=by
 cases sv with
 |ref o=>
  have:V'.own o=V.own o:=h;simp only[ik];rw[this]
 |_=>rfl
theorem iH: ∀{l:List SV},(∀s∈l,s.in1 (λq=>V'.own q=V.own q))->l.all (ik V')=l.all (ik V)
 | [],_=>rfl
 |s::l,h=>by rw[Gn,Gn,tj (h s (.head _)),iH λt ht=>h t (.tail _ ht)]
theorem fV {pl:List (Nat×Nat)}: ∀(l:List (Nat×Operand)) (cs:List SV),(∀x∈l,V'.get x.2=V.get x.2/\∀sv,V.get x.2=some sv->sv.inU (λq=>V'.own q=V.own q))->fJ V' pl cs l=fJ V pl cs l
 | [],cs,_=>rfl
 |(i,x)::l,cs,h=>by
  obtain⟨h1,h2⟩:=h (i,x) (.head _);simp only[fJ];rw[h1];cases hg:V.get x with
  |none=>rfl
  |some sv=>
   cases hp:pl[i]? with
   |none=>rfl
   |some p=>
    obtain⟨off,sz⟩:=p
    match sz with
    |1=>
     simp only[];rw[uZ (h2 sv hg),fV l _ λy hy=>h y (.tail _ hy)]
    |0=>
     have ih:=λcs=>fV (pl:=pl) l cs λy hy=>h y (.tail _ hy);cases sv with
     |tupB ag l2=>cases ag with
      |false=>rfl
      |true=>
       have h3: ∀s∈l2,s.in1 (λq=>V'.own q=V.own q):=h2 _ hg;simp only[];rw[iH h3,ih]
     |_=>rfl
    |n+2=>
     have ih:=λcs=>fV (pl:=pl) l cs λy hy=>h y (.tail _ hy);cases sv with
     |tupB ag l2=>cases ag with
      |false=>rfl
      |true=>
       have h3: ∀s∈l2,s.in1 (λq=>V'.own q=V.own q):=h2 _ hg;simp only[];rw[iH h3,ih]
     |_=>rfl
theorem q8 {t:TypeId}{l:List (Nat×Operand)}(h: ∀x∈l,V'.get x.2=V.get x.2/\∀sv,V.get x.2=some sv->sv.inU (λq=>V'.own q=V.own q)):fZ P V' t l=fZ P V t l:=by
 unfold fZ;split
 ·split
  ·split;·exact fV l _ h
   ·rfl
  ·rfl
 ·rfl
theorem wx {o:Oper}(h:gV V V' o):ev P V' o=ev P V o:=by
 unfold gV at h;unfold ev;split;·rename_i x ho;rw[ho]at h;exact(h x (by simp[Op.operands])).1
 ·rename_i x ho;rw[ho]at h;exact(h x (by simp[Op.operands])).1
 ·rename_i c a b ho;rw[ho]at h;rw[(h c (by simp[Op.operands])).1,(h a (by simp[Op.operands])).1,(h b (by simp[Op.operands])).1]
 ·rename_i op t x y yt ho;rw[ho]at h;rw[(h x (by simp[Op.operands])).1,(h y (by simp[Op.operands])).1]
 ·rename_i op t x ho;rw[ho]at h;rw[(h x (by simp[Op.operands])).1]
 ·rename_i t x ho;rw[ho]at h;obtain⟨h1,h2⟩:=h x (by simp[Op.operands]);rw[h1];cases hg:V.get x with
  |none=>rfl
  |some sv=>simp only[];rw[wH (h2 sv hg)]
 ·rename_i s x f ho;rw[ho]at h;rw[(h x (by simp[Op.operands])).1]
 ·rename_i s x f ho;rw[ho]at h;rw[(h x (by simp[Op.operands])).1]
 ·rename_i x i ho;rw[ho]at h;rw[(h x (by simp[Op.operands])).1]
 ·rename_i t parts ho;rw[ho]at h;rw[wJ λx hx=>(h x.2 (by simp only[Op.operands,Hb,EH];exact⟨x,hx,rfl⟩)).1]
 ·rename_i fn first caps ho;rw[ho]at h
  rw[eI first.toList λx hx=>(h x (by simp only[Op.operands,GS];exact .inl (by simpa using hx))).1,
   eI caps.toList λx hx=>(h x (by simp only[Op.operands,GS];exact .inr (by simpa using hx))).1]
 ·rename_i src dst x ho;rw[ho]at h;rw[(h x (by simp[Op.operands])).1]
 ·rename_i args tys ho;rw[ho]at h;split
  ·rename_i x t ha ht;obtain⟨h1,h2⟩:=h x (by simp only[Op.operands,Call.operands,GS];exact .inr (by rw[<-Gk,ha];simp));rw[h1];cases hg:V.get x with
   |none=>rfl
   |some sv=>simp only[];rw[u7 (h2 sv hg)]
  ·rfl
 ·rename_i args tys ho;rw[ho]at h;split
  ·rename_i x y ha;rw[(h x (by simp only[Op.operands,Call.operands,GS];exact .inr (by rw[<-Gk,ha];simp))).1,
    (h y (by simp only[Op.operands,Call.operands,GS];exact .inr (by rw[<-Gk,ha];simp))).1]
  ·rfl
 ·rename_i args tys ho;rw[ho]at h;split
  ·rename_i x y ha;rw[(h x (by simp only[Op.operands,Call.operands,GS];exact .inr (by rw[<-Gk,ha];simp))).1,
    (h y (by simp only[Op.operands,Call.operands,GS];exact .inr (by rw[<-Gk,ha];simp))).1]
  ·rfl
 ·rename_i x ho;rw[ho]at h;rw[(h x (by simp[Op.operands])).1]
 ·rfl
theorem Does.congr {K:Ctx}{n:Nat}{o:Oper}{sv:SV}{adds:List Own}(h:gV V V' o)(hd:Does K V n o sv adds):Does K V' n o sv adds:=by
 have hag:=h;unfold gV at h;cases hd with
 |ev he=>exact .ev (by rw[wx hag];exact he)
 |idxf ho hx hr hi hu hinf h0 hrow hl=>
  rw[ho]at h;exact .idxf ho ((h _ (by simp[Op.operands])).1.trans hx) hr ((h _ (by simp[Op.operands])).1.trans hi) hu hinf h0 hrow hl
 |idxo ho hx hq hi hu hinf h0 hm hs=>
  rw[ho]at h;obtain⟨h1,h2⟩:=h _ (by simp[Op.operands];exact .inl Y);have h3:V'.own _=V.own _:=h2 _ hx;exact .idxo ho (h1.trans hx) (h3.trans hq) ((h _ (by simp[Op.operands])).1.trans hi) hu hinf h0 hm hs
 | @slf t x lo hi sx fr fl fh rows e inf l hh kl kh ho hx hr hu hinf hlo hhi h0 h1 h2 h3=>
  rw[ho]at h;refine .slf (fl:=fl) (fh:=fh) (kl:=kl) (kh:=kh) ho ((h x (by simp[Op.operands])).1.trans hx) hr hu hinf ?_ ?_ h0 h1 h2 h3
  ·rcases hlo with hlo|⟨y,hy,hg⟩;·exact .inl hlo
   ·exact .inr ⟨y,hy,(h y (by simp[Op.operands,hy])).1.trans hg⟩
  ·rcases hhi with hhi|⟨y,hy,hg⟩;·exact .inl hhi
   ·exact .inr ⟨y,hy,(h y (by simp[Op.operands,hy])).1.trans hg⟩
 |buildR ho hb=>
  rw[ho]at h;exact .buildR ho ((q8 λx hx=>h x.2 (by simp only[Op.operands,Hb,EH];exact⟨x,hx,rfl⟩)).trans hb)
 |box ho hx hp=>
  rw[ho]at h;exact .box ho ((h _ (by simp[Op.operands])).1.trans hx) hp
 |bsv ho hu hi hz hzs hr hl hm hm2=>
  rw[ho]at h;exact .bsv ho hu hi hz hzs (by rw[lg _ _ _ λx hx=>(h x.2 (by simp only[Op.operands,Hb,EH];exact⟨x,hx,rfl⟩)).1];exact hr) hl hm hm2
 |bso ho hu hi hz hzs hr hl hm hm2=>
  rw[ho]at h;exact .bso ho hu hi hz hzs (by rw[lg _ _ _ λx hx=>(h x.2 (by simp only[Op.operands,Hb,EH];exact⟨x,hx,rfl⟩)).1];exact hr) hl hm hm2
 |alloc ho hi hz hps=>exact .alloc ho hi hz hps
 |genO hin hl hrun=>exact .genO hin ((eI _ λx hx=>(h x (hin x hx)).1).trans hl) hrun
 |gen hin hl hrun=>exact .gen hin ((eI _ λx hx=>(h x (hin x hx)).1).trans hl) hrun
 |call ho hx ha hspec=>
  rw[ho]at h;exact .call ho ((h _ (by simp[Op.operands,Call.operands])).1.trans hx) (by rw[lF _ _ λx hx=>h x (by simp only[Op.operands,Call.operands,GS];exact .inr (by simpa using hx))];exact ha) hspec
theorem xK {U:Nat->Prop}(fr:Bool)(p:PV):(mkv fr p).inU U:=by cases p<;>trivial
theorem dY {U:Nat->Prop}(hU: ∀s sv,V.slot s=some sv->sv.inU U){x:Operand}{sv:SV}(h:V.get x=some sv):sv.inU U:=by
 cases x with
 |tmp t=>exact hU t sv h
 |const v=>
  simp only[EnvF.get,cSV]at h;split at h;·obtain rfl:=E7 h;trivial
  ·obtain⟨p,_,rfl⟩:=Ej.1 h;trivial
 |global g=>simp[EnvF.get]at h
 |func f=>simp only[EnvF.get,E9]at h;subst h;trivial
theorem DZ {U:Nat->Prop}(hU: ∀s sv,V.slot s=some sv->sv.inU U){o:Oper}{sv:SV}(he:ev P V o=some sv):sv.inU U:=by
 unfold ev at he;split at he;·exact dY hU he
 ·exact dY hU he
 ·split at he;·exact dY hU he
  ·exact dY hU he
  ·cases he
 ·split at he;·obtain⟨r,_,rfl⟩:=Ej.1 he;trivial
  ·cases he
 ·split at he;·obtain⟨r,_,rfl⟩:=Ej.1 he;trivial
  ·cases he
 ·split at he
  ·split at he;·obtain⟨r,_,rfl⟩:=Ej.1 he;exact xK _ _
   ·cases he
  ·cases he
 ·split at he
  ·split at he
   ·split at he
    ·split at he;·obtain rfl:=E7 he;trivial
     ·cases he
    ·split at he;·obtain rfl:=E7 he;trivial
     ·cases he
    ·split at he;·obtain rfl:=E7 he;trivial
     ·cases he
    ·rename_i hg;obtain rfl:=E7 he;have:=dY hU hg;exact this
    ·cases he
   ·cases he
  ·cases he
 ·split at he
  ·split at he
   ·split at he
    ·split at he
     ·split at he;·obtain rfl:=E7 he;trivial
      ·cases he
     ·obtain⟨r,_,rfl⟩:=Ej.1 he;exact xK _ _
    ·cases he
   ·cases he
  ·cases he
 ·split at he
  ·rename_i hg;have:=dY hU hg;have h1:=this sv (EC he);cases sv with
   |tupB ag l=>exact h1.elim
   |_=>exact h1
  ·cases he
 ·obtain⟨r,_,rfl⟩:=Ej.1 he;trivial
 ·split at he;·obtain rfl:=E7 he;trivial
  ·cases he
 ·split at he
  ·split at he;·obtain rfl:=E7 he;trivial
   ·cases he
  ·cases he
 ·split at he
  ·split at he
   ·split at he
    ·split at he;·obtain rfl:=E7 he;trivial
     ·cases he
    ·split at he;·obtain rfl:=E7 he;trivial
     ·cases he
    ·cases he
   ·cases he
  ·cases he
 ·split at he
  ·split at he;·obtain rfl:=E7 he;trivial
   ·cases he
  ·cases he
 ·split at he
  ·split at he;·obtain rfl:=E7 he;trivial
   ·cases he
  ·cases he
 ·split at he
  ·rename_i hx;obtain rfl:=E7 he;exact dY hU hx
  ·obtain rfl:=E7 he;trivial
  ·cases he
 ·cases he
end
theorem s8 {U:Nat->Prop}(fr:Bool): ∀(rs:List RV) (n:Nat),(∀i,i<(RV.owns fr rs).length->U (n+i))->∀s∈RV.svs fr n rs,s.in1 U
 | [],n,_,s,hs=>by simp[RV.svs]at hs
 | .val p::rs,n,h,s,hs=>by
  simp only[RV.svs,ET]at hs;rcases hs with rfl|hs;·cases p<;>trivial
  ·exact s8 fr rs n h s hs
 | .own e sz rows::rs,n,h,s,hs=>by
  simp only[RV.svs,ET]at hs;rcases hs with rfl|hs;·exact h 0 (by simp[RV.owns])
  ·exact s8 fr rs (n+1) (λi hi=>by rw[Fp,GF 1 i];exact h (i+1) (by simpa[RV.owns]using hi)) s hs
theorem fillSV_in {V:EnvF}{U:Nat->Prop}(hU: ∀s sv,V.slot s=some sv->sv.inU U){pl:List (Nat×Nat)}: ∀(ps:List (Nat×Operand)) (cs l:List SV),fJ V pl cs ps=some l->(∀s∈cs,s.in1 U)->∀s∈l,s.in1 U
 | [],cs,l,hf,hi=>by
  simp only[fJ,E9]at hf;subst hf;exact hi
 |(i,x)::ps,cs,l,hf,hi=>by
  simp only[fJ]at hf;split at hf
  ·rename_i sv off hx hpl;split at hf
   ·rename_i hok hlt;have hin:=dY hU hx;refine fillSV_in hU ps _ l hf λs hs=> ?_;rcases EV hs with h5|rfl;·exact hi s h5
    ·cases s<;>first|exact hin|(simp[ik]at hok)
   ·cases hf
  ·rename_i l2 off n _ hx hpl;split at hf
   ·have hin: ∀s∈l2,s.in1 U:=dY hU hx;exact fillSV_in hU ps _ l hf (mT _ _ _ hi hin)
   ·cases hf
  ·cases hf
theorem yi {P:Program}{V:EnvF}{U:Nat->Prop}(hU: ∀s sv,V.slot s=some sv->sv.inU U){t:TypeId}{ps:List (Nat×Operand)}{l:List SV}(hb:fZ P V t ps=some l): ∀s∈l,s.in1 U:=by
 simp only[fZ]at hb;split at hb
 ·split at hb
  ·split at hb
   ·rename_i hzs _;refine fillSV_in hU ps _ l hb ?_;have key: ∀(vs:List Value) (l:List SV),gI vs=some l->∀s∈l,s.in1 U:=by
     intro vs
     induction vs with
     |nil=>intro l h;simp only[gI,E9]at h;subst h;simp
     |cons v vs ih=>
      intro l h;simp only[gI]at h;split at h
      ·rename_i p l' hp hps;obtain rfl:=E7 h;have h2:=ih l' hps;intro s hs;rcases ET.1 hs with rfl|hs
       ·split at hp;·obtain rfl:=E7 hp;trivial
        ·obtain rfl:=E7 hp;trivial
        ·obtain⟨q0,_,rfl⟩:=Ej.1 hp;trivial
       ·exact h2 s hs
      ·cases h
    exact key _ _ hzs
   ·cases hb
  ·cases hb
 ·cases hb
theorem Does.in_ {K:Ctx}{V:EnvF}{U:Nat->Prop}{n:Nat}{o:Oper}{sv:SV}{adds:List Own}(h:Does K V n o sv adds)(hU: ∀s sv,V.slot s=some sv->sv.inU U):sv.inU (eQ U n adds):=by
 cases h with
 |ev he=>exact SV.in_mono (DZ hU he) λ_ hq=> .inl hq
 |idxf=>trivial
 |idxo ho hx=>exact .inl (dY hU hx)
 |slf=>trivial
 |buildR ho hb=>exact SV.in_mono (s:= .tupB true _) (yi hU hb) λ_ hq=> .inl hq
 |box=>exact .inr ⟨EO _,by simp⟩
 |bsv=>trivial
 |gen=>trivial
 |genO=>exact .inr ⟨EO _,by simp⟩
 |alloc=>exact .inr ⟨EO _,by simp⟩
 |bso=>exact .inr ⟨EO _,by simp⟩
 | @call x args tys f first caps ps al fx res ho hx ha hspec=>
  have h1:=s8 (U:=eQ U n (RV.owns (!al) res)) (!al) res n λi hi=> .inr ⟨by omega,by omega⟩;unfold RV.one;generalize RV.svs (!al) n res=l at h1
  match l,h1 with
  | [],h1=>exact λs hs=>h1 s hs
  | [s],h1=>
   have:=h1 s (.head _);cases s with
   |tupB ag l=>exact this.elim
   |_=>exact this
  |s::s'::l,h1=>exact λt ht=>h1 t ht
inductive DoesW (K:Ctx)(V:EnvF)(o:Oper)(q:Nat)(c':Own):Prop
 |mk {t:TypeId} {x y:Operand} {i off st:Nat} {c:Own} {sy:SV} {fp:Bool} {p:PV} {inf:TypeInfo}:o.op= .store t x y->V.get x=some (.optr q i off st)->V.own q=some c->V.get y=some sy->sy.ff=some (fp,p)->
   K.P.info? t=some inf->p.cells.length=inf.size->c.put i off st fp p.cells=some c'->DoesW K V o q c'
theorem DoesW.congr {K:Ctx}{V V':EnvF}{o:Oper}{q:Nat}{c':Own}(h:gV V V' o)(hd:DoesW K V o q c'):DoesW K V' o q c':=by
 cases hd with
 |mk ho hx hq hy hp hi hs hc=>
  unfold gV at h;rw[ho]at h;obtain⟨h1,h2⟩:=h _ (by simp[Op.operands];exact .inl Y);exact .mk ho (h1.trans hx) ((h2 _ hx).trans hq) ((h _ (by simp[Op.operands])).1.trans hy) hp hi hs hc
inductive DoesA (K:Ctx)(V:EnvF)(o:Oper):Option Nat->Own->Prop
 |own {args:Array Operand} {tys:Array TypeId} {s y:Operand} {t e:TypeId} {q sz:Nat} {fr fy:Bool} {rows rows2:List (List PV)} {sy:SV} {inf:TypeInfo} {z:Value}:o.op= .call { callee:= .builtin .append,args:=args,argTypes:=tys }->args.toList=[s,y]->tys.toList=[t,t]->
   V.get s=some (.ref q)->V.own q=some (.sl e sz fr rows)->V.get y=some sy->V.pvf sy=some (fy,.sl rows2)->K.P.underlying t=some (.slice e)->K.P.info? e=some inf->inf.size=sz->inf.zero=some z->z.cells.size=sz->0<sz->1<=inf.bytes->(∀r∈rows2,r.length=sz)->
   (rows.length+rows2.length)*inf.bytes<=140737488355328->DoesA K V o (some q) (.sl e sz (fr&&fy) (rows++rows2))
 |nil {args:Array Operand} {tys:Array TypeId} {s y:Operand} {t e:TypeId} {fy:Bool} {rows2:List (List PV)} {sy:SV} {inf:TypeInfo} {z:Value}:o.op= .call { callee:= .builtin .append,args:=args,argTypes:=tys }->args.toList=[s,y]->tys.toList=[t,t]->
   V.get s=some .nilsl->V.get y=some sy->V.pvf sy=some (fy,.sl rows2)->K.P.underlying t=some (.slice e)->K.P.info? e=some inf->inf.zero=some z->z.cells.size=inf.size->0<inf.size->1<=inf.bytes->(∀r∈rows2,r.length=inf.size)->
   rows2.length*inf.bytes<=140737488355328->DoesA K V o none (.sl e inf.size fy rows2)
theorem rF {V V':EnvF}{sv:SV}(h:sv.inU (λq=>V'.own q=V.own q)):V'.pvf sv=V.pvf sv:=by
 cases sv with
 |ref o=>simp only[SV.inU,SV.in1]at h;simp only[EnvF.pvf,h]
 |_=>rfl
theorem DoesA.congr {K:Ctx}{V V':EnvF}{o:Oper}{src:Option Nat}{c:Own}(h:gV V V' o)(hd:DoesA K V o src c):DoesA K V' o src c:=by
 cases hd with
 | @own args tys s y t e q sz fr fy rows rows2 sy inf z ho ha ht hs hq hy hp=>
  unfold gV at h;rw[ho]at h;have hx: ∀x,x∈[s,y]->V'.get x=V.get x/\∀sv,V.get x=some sv->sv.inU (λq=>V'.own q=V.own q):=λx hx=>h x (by rw[<-ha]at hx;simpa[Op.operands,Call.operands]using hx);exact .own ho ha ht ((hx s (by simp)).1.trans hs) (((hx s (by simp)).2 _ hs).trans hq) ((hx y (by simp)).1.trans hy) ((rF ((hx y (by simp)).2 _ hy)).trans hp) ‹_› ‹_› ‹_› ‹_› ‹_› ‹_› ‹_› ‹_› ‹_›
 | @nil args tys s y t e fy rows2 sy inf z ho ha ht hs hy hp=>
  unfold gV at h;rw[ho]at h;have hx: ∀x,x∈[s,y]->V'.get x=V.get x/\∀sv,V.get x=some sv->sv.inU (λq=>V'.own q=V.own q):=λx hx=>h x (by rw[<-ha]at hx;simpa[Op.operands,Call.operands]using hx);exact .nil ho ha ht ((hx s (by simp)).1.trans hs) ((hx y (by simp)).1.trans hy) ((rF ((hx y (by simp)).2 _ hy)).trans hp) ‹_› ‹_› ‹_› ‹_› ‹_› ‹_› ‹_› ‹_›
theorem DoesB.congr {K:Ctx}{V V':EnvF}{o:Oper}{n g q q2:Nat}{sv:SV}{ad:List Own}(h:gV V V' o)(hg:V'.slot g=V.slot g)(h2:V'.own q2=V.own q2)(hd:DoesB K V n o g q q2 sv ad):DoesB K V' n o g q q2 sv ad:=by
 cases hd with
 | @mk y x args tys f fx frb fr res row e sz rows u ho hx0 hax hbx hbo hgs hbq hspec=>
  unfold gV at h;rw[ho]at h;obtain⟨a1,_⟩:=h y (by simp[Op.operands,Call.operands]);obtain⟨b1,b2⟩:=h x (by
   have:x∈args.toList:=(by rw[hax];exact .head _);simp[Op.operands,Call.operands];exact .inr (by simpa using this))
  exact .mk ho (a1.trans hx0) hax (b1.trans hbx) ((b2 _ hbx).trans hbo) (hg.trans hgs) (h2.trans hbq) hspec
 | @agg y x xs args tys f fx fa fr res row ps e sz rows u ho hx0 hax hbx hps hgs hbq hspec=>
  unfold gV at h;rw[ho]at h;have hx: ∀z,z∈args.toList->V'.get z=V.get z/\∀sv,V.get z=some sv->sv.inU (λq=>V'.own q=V.own q):=λz hz=>h z (by simp[Op.operands,Call.operands];exact .inr (by simpa using hz));exact .agg ho ((h y (by simp[Op.operands,Call.operands])).1.trans hx0) hax ((hx x (by rw[hax];exact .head _)).1.trans hbx) ((lF _ _ λz hz=>hx z (by rw[hax];exact .tail _ hz)).trans hps) (hg.trans hgs) (h2.trans hbq) hspec
theorem DoesB.in_ {K:Ctx}{V:EnvF}{U:Nat->Prop}{n g q q2:Nat}{o:Oper}{sv:SV}{adds:List Own}(h:DoesB K V n o g q q2 sv adds):sv.inU (eQ U n adds):=by
 have key: ∀res:List RV,(RV.one true n res).inU (eQ U n (RV.owns true res)):=λres=>by
  have h1:=s8 (U:=eQ U n (RV.owns true res)) true res n λi hi=> .inr ⟨by omega,by omega⟩;unfold RV.one;generalize RV.svs true n res=l at h1
  match l,h1 with
  | [],h1=>exact λs hs=>h1 s hs
  | [s],h1=>
   have:=h1 s (.head _);cases s with
   |tupB ag l=>exact this.elim
   |_=>exact this
  |s::s'::l,h1=>exact λt ht=>h1 t ht
 cases h with
 |mk=>exact key _
 |agg=>exact key _
structure RecD where
 d:Option Nat
 sv:SV
 ad:List Own
 n:Nat
 wr:Option (Nat×Option Own)
def upd (V:EnvF)(r:RecD):EnvF:=⟨λs=>if r.d=some s then some r.sv else V.slot s,λo=>match r.wr with
 |some (q,c)=>if o=q then c else cN V.own r.n r.ad o
 |none=>cN V.own r.n r.ad o⟩
def yW:Op->Bool
 | .store .. =>true
 |_=>false
def vY:Op->Bool
 | .call { callee:= .builtin .append,.. }=>true
 |_=>false
def pd (V:EnvF)(ops:Array Oper)(q:Nat):Op->Bool
 | .store _ (.tmp s) _=>(match V.slot s with
  |some (.optr q' _ _ _)=>q' != q
  |_=>false)&&ops.toList.all λo=>o.dst != some s
 | .store .. =>false
 |_=>true
inductive RO (K:Ctx)(ops:Array Oper)(V:EnvF)(o:Oper):RecD->Prop
 |does {d n:Nat} {sv:SV} {ad:List Own}:wants ops V o=some true->o.dst=some d->K.can d=true->Does K V n o sv ad->RO K ops V o ⟨some d,sv,ad,n,none⟩
 |skip {d n:Nat}:wants ops V o=some false->o.dst=some d->K.can d=true->RO K ops V o ⟨some d,.tup [],[],n,none⟩
 |sto {n q:Nat} {c:Own}:wants ops V o=some true->o.dst=none->DoesW K V o q c->RO K ops V o ⟨none,.nilsl,[],n,some (q,some c)⟩
 |app {d n:Nat} {src:Option Nat} {c:Own}:wants ops V o=some true->o.dst=some d->K.can d=true->DoesA K V o src c->RO K ops V o ⟨some d,.ref n,[c],n,src.map λq=>(q,none)⟩
 |appf {d n q sz:Nat} {e:TypeId} {fr:Bool} {rows:List (List PV)}:wants ops V o=some true->o.dst=some d->K.can d=true->(∀b,¬K.M b)->DoesA K V o (some q) (.sl e sz fr rows)->RO K ops V o ⟨some d,.val fr (.sl rows),[],n,some (q,none)⟩
 |lraw {d n g q:Nat} {t:TypeId} {x:Operand} {sx sv:SV} {fr:Bool} {cs:List PV} {u:Value}:wants ops V o=some true->o.dst=some d->K.can d=true->o.op= .load t x->V.get x=some sx->V.cellsAt sx=some (fr,cs)->iR K.P t cs=some (.raw u)->V.slot g=some (.eq u q)->
   (ops.toList.all λo'=>o'.dst != some g)=true->(sv= .ref q∨(∃b,u= .pointer (some ⟨b,0,none⟩))/\sv= .optr q 0 0 0)->RO K ops V o ⟨some d,sv,[],n,none⟩
 |cbox {d n g q q2:Nat} {sv:SV} {ad:List Own}:wants ops V o=some true->o.dst=some d->K.can d=true->DoesB K V n o g q q2 sv ad->(ops.toList.all λo'=>o'.dst != some g&&pd V ops q2 o'.op&& !vY o'.op)=true->RO K ops V o ⟨some d,sv,ad,n,none⟩
 |lmap {d n g q m:Nat} {t:TypeId} {x i:Operand} {si:SV} {fi fr:Bool} {pi:PV} {b:Option (List Nat×Nat)} {l:List (Value×PV)} {u:Value}:wants ops V o=some true->o.dst=some d->K.can d=true->o.op= .lookup t x i false->V.get x=some (.ref m)->V.own m=some (.mp fr b l)->V.get i=some si->si.ff=some (fi,pi)->
   (∀(A:Act) (w:World) (Z:Bool->Nat->Prop),aA w Z (A.eval x) (.mp fr b l)->Rep w (Z fi) (A.eval i) pi->(execOp A.eval o).run K.P w= .ok (.value u) w)->V.slot g=some (.eq u q)->
   (ops.toList.all λo'=>o'.dst != some g)=true->RO K ops V o ⟨some d,.ref q,[],n,none⟩
theorem RelW.frzN {K:Ctx}{S:Nat->Option SV}{own:Nat->Option Own}{src:Option Nat}{n:Nat}{e:TypeId}{sz:Nat}{fr:Bool}{rows:List (List PV)}{U:Nat->Prop}{φ:Nat->Value}{a:Act}{w:World}(hM: ∀b,¬K.M b)(hn: ¬U n)(hS: ∀s sv,S s=some sv->sv.inU U)(hown: ∀o c,own o=some c->U o)
  (h:RelW K ⟨S,aK own src n (.sl e sz fr rows)⟩ (λi=>U i∨i=n) φ a w):RelW K ⟨S,λi=>if src=some i then none else own i⟩ U φ a w/\Rep w (Zf K ⟨S,λi=>if src=some i then none else own i⟩ φ fr) (φ n) (.sl rows):=by
 have hown': ∀q c,(if src=some q then none else own q)=some c->q≠n/\aK own src n (.sl e sz fr rows) q=some c:=by
  intro q c hq;have hne:q≠n:=λe=>by
   subst e;split at hq;·cases hq
   ·exact hn (hown _ _ hq)
  exact⟨hne,by simp only[aK];rw[E4 hne];exact hq⟩
 have hnn:aK own src n (.sl e sz fr rows) n=some (.sl e sz fr rows):=(by simp[aK]);have hZ: ∀f b,Zf K ⟨S,aK own src n (.sl e sz fr rows)⟩ φ f b->Zf K ⟨S,λi=>if src=some i then none else own i⟩ φ f b:=
  λf b hb=>⟨⟨hb.1.1,λq c hq=>hb.1.2 q c (hown' q c hq).2⟩,hb.2⟩
 refine⟨⟨h.df,h.sz,h.old,h.kept,?_,?_,?_,?_,?_,hS⟩,?_⟩
 ·intro q c hq;exact(h.own q c (hown' q c hq).2).mono (λ_ _=>rfl) λf b hb _=>⟨hZ f b hb,rfl⟩
 ·intro q c g hq;exact h.mine q c g (hown' q c hq).2
 ·intro q c hq;refine hown q c ?_;simp only at hq;split at hq;·cases hq
  ·exact hq
 ·intro q q' c c' g hq hq';exact h.dis q q' c c' g (hown' q c hq).2 (hown' q' c' hq').2
 ·intro t sv hsv;obtain⟨v,hv,hr⟩:=h.slot t sv hsv;exact⟨v,hv,hr.mono (h.sin t sv hsv) (λf b hb _=>⟨hZ f b hb,rfl⟩) (λ_ _=>rfl)⟩
 ·obtain⟨xs,hwn,hl,h1,h2⟩:=h.own n _ hnn;have hl':L2 (Rep w (Zf K ⟨S,λi=>if src=some i then none else own i⟩ φ fr)) xs rows.flatten:=Rep.monoL (λb hb _=>⟨hZ fr b hb,rfl⟩) hl;have hcell:=λg hg=>hwn.cells (g:=g) hg;have hlt:=hwn.lt;rcases hwn.2 with ⟨hv0,hn0⟩|⟨g,cap,cur,hv0,_,hgc,hnc,hcm,_⟩
  ·rw[hv0];have:rows=[]:=EQ hn0;subst this;exact .nilsl
  ·have hvb:VB (φ n) g:=(by rw[hv0];exact .inl Y);have hm:=h.mine n _ g hnn hvb;have hge:K.w0.heap.size<=g:=hm.resolve_right (hM g);rw[hv0]at hcell hlt⊢;refine .sl g 0 cap sz rows xs ⟨⟨.inl hge,λq c hq hvq=> ?_⟩,λ_=>K.hF _ hge⟩ (hlt g Y).2 h1 h2 (λj v hj=> ?_) hnc hcm hl'
   ·obtain⟨hne,hq'⟩:=hown' q c hq;exact hne (h.dis q n c _ g hq' hnn hvq hvb)
   ·have:=hcell g Y j v hj;rw[bE]at this;exact ce hgc this
inductive TD (K:Ctx)(ops:Array Oper):List Oper->EnvF->Nat->EnvF->Nat->Prop
 |nil {V:EnvF} {n:Nat}:TD K ops [] V n V n
 |step {o:Oper} {rest:List Oper} {V V':EnvF} {n':Nat} {r:RecD}:RO K ops V o r->TD K ops rest (upd V r) (r.n+r.ad.length) V' n'->TD K ops (o::rest) V r.n V' n'
theorem EnvF.ext {V V':EnvF}(h1: ∀s,V.slot s=V'.slot s)(h2: ∀o,V.own o=V'.own o):V=V':=by
 cases V;cases V';simp only[EnvF.mk.injEq];exact⟨funext h1,funext h2⟩
theorem cK (f:Nat->Option Own)(n o:Nat):cN f n [] o=f o:=by
 simp only[cN,Fg,G3];rw[E4 (by omega)]
theorem TD.does {K:Ctx}{ops:Array Oper}{o:Oper}{rest:List Oper}{V V1 V':EnvF}{n n' d:Nat}{sv:SV}{adds:List Own}(hw:wants ops V o=some true)(hd:o.dst=some d)(hlt:K.can d=true)(h:Does K V n o sv adds)
  (e:V1=⟨λs=>if s=d then some sv else V.slot s,cN V.own n adds⟩) (k:TD K ops rest V1 (n+adds.length) V' n'):TD K ops (o::rest) V n V' n':=by
 have e2:V1=upd V ⟨some d,sv,adds,n,none⟩:=by
  rw[e];refine EnvF.ext (λs=> ?_) (λo=>rfl);simp only[upd,E9];by_cases h:s=d;·rw[E6 h,E6 h.symm]
  ·rw[E4 h,E4 (Ne.symm h)]
 rw[e2]at k;exact .step (.does hw hd hlt h) k
theorem TD.skip {K:Ctx}{ops:Array Oper}{o:Oper}{rest:List Oper}{V V1 V':EnvF}{n n' d:Nat}(hw:wants ops V o=some false)(hd:o.dst=some d)(hlt:K.can d=true)
  (e:V1=⟨λs=>if s=d then some (.tup [])else V.slot s,V.own⟩) (k:TD K ops rest V1 n V' n'):TD K ops (o::rest) V n V' n':=by
 have e2:V1=upd V ⟨some d,.tup [],[],n,none⟩:=by
  rw[e];refine EnvF.ext (λs=> ?_) (λo=>(cK _ _ _).symm);simp only[upd,E9];by_cases h:s=d;·rw[E6 h,E6 h.symm]
  ·rw[E4 h,E4 (Ne.symm h)]
 rw[e2]at k;exact .step (.skip hw hd hlt) k
theorem TD.sto {K:Ctx}{ops:Array Oper}{o:Oper}{rest:List Oper}{V V1 V':EnvF}{n n' q:Nat}{c:Own}(hw:wants ops V o=some true)(hd:o.dst=none)(h:DoesW K V o q c)
  (e:V1=⟨V.slot,λj=>if j=q then some c else V.own j⟩) (k:TD K ops rest V1 n V' n'):TD K ops (o::rest) V n V' n':=by
 have e2:V1=upd V ⟨none,.nilsl,[],n,some (q,some c)⟩:=by
  rw[e];refine EnvF.ext (λs=> ?_) (λo=> ?_);·simp[upd]
  ·simp only[upd];by_cases h:o=q;·rw[E6 h,E6 h]
   ·rw[E4 h,E4 h];exact(cK _ _ _).symm
 rw[e2]at k;exact .step (.sto hw hd h) k
theorem TD.recs {K:Ctx}{ops:Array Oper}{l:List Oper}{V V':EnvF}{n n':Nat}(h:TD K ops l V n V' n'):
  ∃(rs:Nat->RecD) (W:Nat->EnvF),W 0=V/\W l.length=V'/\(rs 0).n=n/\(rs l.length).n=n'/\(∀i,i<l.length->W (i+1)=upd (W i) (rs i)/\(rs (i+1)).n=(rs i).n+(rs i).ad.length)/\
   ∀(i:Nat) o,l[i]? =some o->RO K ops (W i) o (rs i):=by
 induction h with
 | @nil V n=>exact⟨λ_=>⟨none,.nilsl,[],n,none⟩,λ_=>V,rfl,rfl,rfl,rfl,by simp,by simp⟩
 | @step o rest V V' n' r hr _ ih=>
  obtain⟨rs,W,h0,h1,h2,h3,h4,h5⟩:=ih;refine⟨λi=>match i with|0=>r|i+1=>rs i,λi=>match i with|0=>V|i+1=>W i,rfl,h1,rfl,h3,?_,?_⟩
  ·intro i hi;cases i with
   |zero=>exact⟨h0,h2⟩
   |succ i=>exact h4 i (by simpa using hi)
  ·intro i o' ho;cases i with
   |zero=>simp at ho;subst ho;exact hr
   |succ i=>exact h5 i o' (by simpa using ho)
open Classical in
noncomputable def fG (rs:Nat->RecD)(S:Nat->Prop)(o:Nat):Option (Option Own):=
 if h: ∃c,∃k,S k/\(rs k).wr=some (o,c)/\∀k' c',S k'->(rs k').wr=some (o,c')->k'<=k then some h.choose else none
open Classical in
noncomputable def ov (V0:EnvF)(rs:Nat->RecD)(S:Nat->Prop):EnvF:=
 ⟨λs=>if h: ∃k,S k/\(rs k).d=some s then some (rs h.choose).sv else V0.slot s,
 λo=>match fG rs S o with
  |some c=>c
  |none=>if h: ∃k,S k/\(rs k).n<=o/\o<(rs k).n+(rs k).ad.length then(rs h.choose).ad[o-(rs h.choose).n]? else V0.own o⟩
section
variable {V0:EnvF}{rs:Nat->RecD}{m:Nat}
theorem ng {S:Nat->Prop}{o k:Nat}{c:Option Own}(hk:S k)(hw:(rs k).wr=some (o,c))(hm: ∀k' c',S k'->(rs k').wr=some (o,c')->k'<=k):fG rs S o=some c:=by
 have h: ∃c,∃k,S k/\(rs k).wr=some (o,c)/\∀k' c',S k'->(rs k').wr=some (o,c')->k'<=k:=⟨c,k,hk,hw,hm⟩;unfold fG;rw[dif_pos h];obtain⟨k2,h1,h2,h3⟩:=h.choose_spec;have:k2=k:=Nat.le_antisymm (hm k2 _ h1 h2) (h3 k c hk hw);subst this;rw[hw]at h2;simp only[E9,Prod.mk.injEq,true_and]at h2;rw[<-h2]
theorem ir {S:Nat->Prop}{o:Nat}(h: ∀k c,S k->(rs k).wr≠some (o,c)):fG rs S o=none:=by
 unfold fG;rw[dif_neg];rintro⟨c,k,hk,hw,_⟩;exact h k c hk hw
theorem BH {S:Nat->Prop}(hS: ∀k,S k->k<m){o k0:Nat}{c0:Option Own}(hk:S k0)(hw:(rs k0).wr=some (o,c0)): ∃k c,S k/\(rs k).wr=some (o,c)/\∀k' c',S k'->(rs k').wr=some (o,c')->k'<=k:=by
 have key: ∀r k0 c0,m-k0<=r->S k0->(rs k0).wr=some (o,c0)->∃k c,S k/\(rs k).wr=some (o,c)/\∀k' c',S k'->(rs k').wr=some (o,c')->k'<=k:=by
  intro r
  induction r with
  |zero=>intro k0 c0 hr hk _;have:=hS k0 hk;omega
  |succ r ih=>
   intro k0 c0 hr hk hw;by_cases h: ∃k' c',S k'/\(rs k').wr=some (o,c')/\k0<k'
   ·obtain⟨k',c',h1,h2,h3⟩:=h;exact ih k' c' (by have:=hS k' h1;omega) h1 h2
   ·exact⟨k0,c0,hk,hw,λk' c' h1 h2=>I6 λh3=>h ⟨k',c',h1,h2,h3⟩⟩
 exact key (m-k0) k0 c0 (EO _) hk hw
theorem nY {S S':Nat->Prop}(hS: ∀k,S k->k<m){o:Nat}(h: ∀k c,(rs k).wr=some (o,c)->(S k↔S' k)):fG rs S o=fG rs S' o:=by
 by_cases h0: ∃k c,S k/\(rs k).wr=some (o,c)
 ·obtain⟨k0,c0,hk,hw⟩:=h0;obtain⟨k,c,h1,h2,h3⟩:=BH hS hk hw;rw[ng h1 h2 h3,ng ((h k c h2).1 h1) h2 λk' c' hk' hw'=>h3 k' c' ((h k' c' hw').2 hk') hw']
 ·rw[ir λk c hk hw=>h0 ⟨k,c,hk,hw⟩,ir λk c hk hw=>h0 ⟨k,c,(h k c hw).2 hk,hw⟩]
structure Sound (V0:EnvF)(rs:Nat->RecD)(m:Nat):Prop where
 inj: ∀i j s,i<m->j<m->(rs i).d=some s->(rs j).d=some s->i=j
 nn: ∀i,i<m->(rs (i+1)).n=(rs i).n+(rs i).ad.length
 low: ∀i q c,i<m->(rs i).wr=some (q,c)->q<(rs i).n
theorem Sound.mono (hs:Sound V0 rs m){i j:Nat}(hij:i<=j)(hj:j<=m):(rs i).n<=(rs j).n:=by
 induction j with
 |zero=>
  have:i=0:=(by omega);subst this;exact EO _
 |succ j ih=>
  by_cases e:i=j+1;·subst e;exact EO _
  ·have:=ih (by omega) (by omega);have:=hs.nn j (by omega);omega
theorem Sound.dis (hs:Sound V0 rs m){i j o:Nat}(hi:i<m)(hj:j<m)(h1:(rs i).n<=o/\o<(rs i).n+(rs i).ad.length)(h2:(rs j).n<=o/\o<(rs j).n+(rs j).ad.length):i=j:=by
 rcases Hz i j with h|h|h;·have:=hs.mono (i:=i+1) (j:=j) h (by omega);have:=hs.nn i hi;omega
 ·exact h
 ·have:=hs.mono (i:=j+1) (j:=i) h (by omega);have:=hs.nn j hj;omega
theorem lY (hs:Sound V0 rs m){S:Nat->Prop}(hS: ∀k,S k->k<m){k s:Nat}(hk:S k)(hd:(rs k).d=some s):(ov V0 rs S).slot s=some (rs k).sv:=by
 have h: ∃j,S j/\(rs j).d=some s:=⟨k,hk,hd⟩;simp only[ov];rw[dif_pos h];have:=hs.inj _ _ s (hS _ h.choose_spec.1) (hS k hk) h.choose_spec.2 hd;rw[this]
theorem bl {S:Nat->Prop}{s:Nat}(h: ∀k,S k->(rs k).d≠some s):(ov V0 rs S).slot s=V0.slot s:=by
 simp only[ov];rw[dif_neg];rintro⟨k,hk,e⟩;exact h k hk e
theorem pR (hs:Sound V0 rs m){S:Nat->Prop}(hS: ∀k,S k->k<m){k o:Nat}(hk:S k)(ho:(rs k).n<=o/\o<(rs k).n+(rs k).ad.length):(ov V0 rs S).own o=match fG rs S o with
  |some c=>c
  |none=>(rs k).ad[o-(rs k).n]? :=by
 have h: ∃j,S j/\(rs j).n<=o/\o<(rs j).n+(rs j).ad.length:=⟨k,hk,ho⟩;simp only[ov];cases fG rs S o with
 |some c=>rfl
 |none=>
  simp only[];rw[dif_pos h];have:=hs.dis (hS _ h.choose_spec.1) (hS k hk) h.choose_spec.2 ho;rw[this]
theorem fe {S:Nat->Prop}{o:Nat}(h: ∀k,S k->¬((rs k).n<=o/\o<(rs k).n+(rs k).ad.length)):(ov V0 rs S).own o=match fG rs S o with
  |some c=>c
  |none=>V0.own o:=by
 simp only[ov];cases fG rs S o with
 |some c=>rfl
 |none=>
  simp only[];rw[dif_neg];rintro⟨k,hk,e⟩;exact h k hk e
theorem iq {S S':Nat->Prop}(h: ∀k,S k↔S' k):ov V0 rs S=ov V0 rs S':=by
 have:S=S':=funext λk=>propext (h k);rw[this]
theorem Bg (hs:Sound V0 rs m){S:Nat->Prop}(hS: ∀k,S k->k<m){j:Nat}(hj:j<m)(hn: ¬S j)(hmax: ∀q c k c',(rs j).wr=some (q,c)->S k->(rs k).wr=some (q,c')->k<j)(hcl: ∀k q c,S k->(rs k).wr=some (q,c)->¬((rs j).n<=q/\q<(rs j).n+(rs j).ad.length)):ov V0 rs (λk=>S k∨k=j)=upd (ov V0 rs S) (rs j):=by
 have hS': ∀k,(S k∨k=j)->k<m:=λk hk=>hk.elim (hS k) (λe=>e▸hj);refine EnvF.ext (λs=> ?_) (λo=> ?_)
 ·by_cases e:(rs j).d=some s
  ·rw[lY hs hS' (k:=j) (.inr Y) e];simp[upd,e]
  ·simp only[upd];rw[E4 e];by_cases h: ∃k,S k/\(rs k).d=some s
   ·obtain⟨k,hk,hd⟩:=h;rw[lY hs hS' (k:=k) (.inl hk) hd,lY hs hS hk hd]
   ·rw[bl (λk hk hd=>hk.elim (λhk=>h ⟨k,hk,hd⟩) (λhk=>e (hk▸hd))),bl (λk hk hd=>h ⟨k,hk,hd⟩)]
 ·have plain:(∀c,(rs j).wr≠some (o,c))->(ov V0 rs (λk=>S k∨k=j)).own o=cN (ov V0 rs S).own (rs j).n (rs j).ad o:=by
   intro hnw;have hl:fG rs (λk=>S k∨k=j) o=fG rs S o:=(nY hS (λk c hw=>⟨.inl,λh=>h.elim id λe=>EX (e▸hw) (hnw c)⟩)).symm;simp only[cN];by_cases e:(rs j).n<=o/\o<(rs j).n+(rs j).ad.length;·rw[E6 e,pR hs hS' (k:=j) (.inr Y) e,hl,ir λk c hk hw=>hcl k o c hk hw e]
   ·rw[E4 e];by_cases h: ∃k,S k/\(rs k).n<=o/\o<(rs k).n+(rs k).ad.length
    ·obtain⟨k,hk,ho⟩:=h;rw[pR hs hS' (k:=k) (.inl hk) ho,pR hs hS hk ho,hl]
    ·rw[fe (λk hk hd=>hk.elim (λhk=>h ⟨k,hk,hd⟩) (λhk=>e (hk▸hd))),fe (λk hk hd=>h ⟨k,hk,hd⟩),hl]
  simp only[upd];cases hw:(rs j).wr with
  |none=>exact plain λc=>by rw[hw];simp
  |some x=>
   obtain⟨q,c⟩:=x;simp only[];by_cases e:o=q
   ·subst e;rw[E6 Y];simp only[ov];rw[ng (k:=j) (c:=c) (.inr Y) hw λk' c' hk' hw'=>hk'.elim (λh=>HH (hmax o c k' c' hw h hw')) (λh=>h▸EO _)]
   ·rw[E4 e];exact plain λc'=>by rw[hw];simp;intro h;exact EX h.symm e
theorem yL:ov V0 rs (λ_=>False)=V0:=EnvF.ext (λs=>bl (λ_ hk=>hk.elim)) (λo=>by
 rw[fe (λ_ hk=>hk.elim),ir λ_ _ hk=>hk.elim])
theorem yK (hs:Sound V0 rs m){W:Nat->EnvF}(h0:W 0=V0)(hW: ∀i,i<m->W (i+1)=upd (W i) (rs i)): ∀i,i<=m->W i=ov V0 rs (· <i)
 |0,_=>by
  rw[h0];exact(yL (V0:=V0) (rs:=rs)).symm.trans (iq λk=>⟨λh=>h.elim,λh=>EX h (FK _)⟩)
 |i+1,hi=>by
  rw[hW i (by omega),yK hs h0 hW i (by omega),<-Bg hs (λk hk=>by omega) (by omega) (by omega) (λq c k c' _ hk _=>hk) (λk q c hk hw hr=>by
   have:=hs.low k q c (by omega) hw;have:=hs.mono (i:=k) (j:=i) (by omega) (by omega);omega)]
  exact iq λk=>by omega
end
def fw (ops:Array Oper)(k j:Nat):Bool:=if k<j then((Region.before ops).getD j 0).testBit k else((Region.before ops).getD k 0).testBit j
def okW (ops:Array Oper)(m:Nat):Bool:=
 (List.range ops.size).all λj=>match ops[j]? with
  |none=>true
  |some o=>
   (o.after.toList.all λe=> !Region.binds .any e||Nat.blt e.on j)&&
   (if j<m then(o.dst.isSome||yW o.op)&&((List.range m).all λi=>match ops[i]? with
     |none=>true
     |some oi=>i==j||((oi.dst.isNone|| !(oi.dst==o.dst))&&(match oi.dst with
      |some d=> !(o.looksAt ops).contains d||(if i<j then((Region.before ops).getD j 0).testBit i else((Region.before ops).getD i 0).testBit j)
      |none=>true)))
   else(List.range j).all λi=>((Region.before ops).getD j 0).testBit i)
def okD (ops:Array Oper)(m:Nat):Bool:=okW ops m&&((ops.toList.take m).all λo=>o.dst.isSome&& !yW o.op&& !vY o.op)
def nr (q:Nat):Option SV->Bool
 |some (.ref o)=>o != q
 |some (.optr o _ _ _)=>o != q
 |some (.fref _ o)=>o != q
 |some (.eq _ o)=>o != q
 |some (.tupB _ l)=>l.all λs=>match s with
  | .ref o=>o != q
  | .optr o _ _ _=>o != q
  | .fref _ o=>o != q
  | .eq _ o=>o != q
  |_=>true
 |_=>true
def tg:Option SV->List Nat
 |some (.optr q _ _ _)=>[q]
 |_=>[]
def tgr:Option SV->List Nat
 |some (.ref q)=>[q]
 |_=>[]
def SV.lowN (n:Nat):SV->Bool
 | .val .. | .nilsl| .fptr .. | .fix .. =>true
 | .ref o| .optr o _ _ _| .fref _ o| .eq _ o=>Nat.blt o n
 | .tupB _ _=>false
theorem pU {fr:Bool}{n n':Nat}(hn:n<=n'): ∀{res:List RV},(RV.one fr n' res).lowN n=true->RV.owns fr res=[]
 | [],h=>rfl
 | [.val p],h=>rfl
 | [.own e sz rows],h=>by
  have h:Nat.blt n' n=true:=h;rw[Gc]at h;omega
 |r::r'::res,h=>by
  cases r<;>cases r'<;>cases h
theorem DoesB.noAd {K:Ctx}{V:EnvF}{n n' g q q2:Nat}{o:Oper}{sv:SV}{ad:List Own}(h:DoesB K V n' o g q q2 sv ad)(hn:n<=n')(hs:sv.lowN n=true):ad=[]:=by
 cases h with
 |mk=>exact pU hn hs
 |agg=>exact pU hn hs
theorem Does.noAd {K:Ctx}{V:EnvF}{n n':Nat}{o:Oper}{sv:SV}{ad:List Own}(h:Does K V n' o sv ad)(hn:n<=n')(hs:sv.lowN n=true):ad=[]:=by
 have no:Nat.blt n' n=true->False:=λh=>(by rw[Gc]at h;omega);cases h with
 |call _ _ _ _=>exact pU hn hs
 |ev _=>rfl
 |idxf=>rfl
 |idxo=>rfl
 |slf=>rfl
 |bsv=>rfl
 |gen=>rfl
 |buildR=>rfl
 |box=>exact(no hs).elim
 |genO=>exact(no hs).elim
 |alloc=>exact(no hs).elim
 |bso=>exact(no hs).elim
def D5 (n:Nat)(V V':EnvF)(ops:Array Oper)(m k:Nat)(l:List Nat):Bool:=
 l.all λq=>(Nat.blt q n||(List.range k).all λj=>fw ops j k||(match ops[j]? with
   |some oj=>(match oj.dst with
    |some s=>(match V'.slot s with
     |some sv=>sv.lowN n
     |none=>false)
    |none=>true)
   |none=>true))&&(List.range m).all λj=>j==k||fw ops k j||(match ops[j]? with
    |some oj=>oj.op.operands.toList.all λx=>match x with
     | .tmp s=>nr q (V.slot s)&&nr q (V'.slot s)
     |_=>true
    |none=>true)
def tgs (V V':EnvF)(o:Op):Option (List Nat):=
 match o with
 | .store _ (.tmp t) _=>some (tg (V.slot t)++tg (V'.slot t))
 | .store _ _ _=>none
 | .call { callee:= .builtin .append,args,.. }=>match args.toList with
  | .tmp t::_=>some (tgr (V.slot t)++tgr (V'.slot t))
  |_=>some []
 |_=>some []
def chk (n:Nat)(V V':EnvF)(ops:Array Oper)(m:Nat):Bool:=
 (List.range m).all λk=>match ops[k]? with
  |some o=>match tgs V V' o.op with
   |some l=>D5 n V V' ops m k l
   |none=>false
  |none=>true
theorem Ay {n:Nat}{V V':EnvF}{ops:Array Oper}{m:Nat}(h:okD ops m=true):chk n V V' ops m=true:=by
 simp only[okD,EL,EN]at h;simp only[chk,EN,ES];intro k hk;cases ho:ops[k]? with
 |none=>rfl
 |some o=>
  have hm:o∈ops.toList.take m:=EC (i:=k) (by rw[Fk,E6 hk];simpa using ho);have h2:=h.2 o hm;have h3:tgs V V' o.op=some []:=by
   unfold tgs;split;·rename_i hop;rw[hop]at h2;simp[yW]at h2
   ·rename_i hop;rw[hop]at h2;simp[yW]at h2
   ·rename_i hop;rw[hop]at h2;simp[vY]at h2
   ·rfl
  simp only[h3];rfl
def wl (acc:Array Nat)(l:List Edge)(s:Nat):Nat:=l.foldl (λs e=>if Region.binds .any e then s ||| 2 ^ e.on ||| acc.getD e.on 0 else s) s
theorem fold1_bit {acc:Array Nat}{i:Nat}: ∀(l:List Edge) (s:Nat),(wl acc l s).testBit i=true->s.testBit i=true∨∃e∈l,Region.binds .any e=true/\(i=e.on∨(acc.getD e.on 0).testBit i=true)
 | [],s,h=> .inl h
 |e::l,s,h=>by
  simp only[wl,En]at h;rcases fold1_bit l _ h with h1|⟨e',he,hb,hr⟩
  ·by_cases hb:Region.binds .any e=true
   ·rw[E6 hb]at h1;simp only[Nat.testBit_or,Fs]at h1;rcases h1 with (h1|h1)|h1;·exact .inl h1
    ·rw[Nat.testBit_two_pow]at h1;exact .inr ⟨e,.head _,hb,.inl (FV h1).symm⟩
    ·exact .inr ⟨e,.head _,hb,.inr h1⟩
   ·rw[E4 hb]at h1;exact .inl h1
  ·exact .inr ⟨e',.tail _ he,hb,hr⟩
def fB:List Oper->Array Nat->Array Nat
 | [],acc=>acc
 |o::l,acc=>fB l (acc.push (wl acc o.after.toList 0))
theorem AE (ops:Array Oper):Region.before ops=fB ops.toList #[]:=by
 unfold Region.before;rw[<-Gw];generalize (#[]:Array Nat)=acc;generalize ops.toList=l
 induction l generalizing acc with
 |nil=>rfl
 |cons o l ih=>
  simp only[En,fB];rw[<-ih];congr 2;rw[<-Gw];rfl
theorem oq: ∀(l:List Oper) (acc:Array Nat),(∀j,j<acc.size->(fB l acc).getD j 0=acc.getD j 0)/\
  ∀(i:Nat) o,l[i]? =some o->∃acc',(fB l acc).getD (acc.size+i) 0=wl acc' o.after.toList 0/\∀j,j<acc.size+i->acc'.getD j 0=(fB l acc).getD j 0/\acc'.size=acc.size+i
 | [],acc=>⟨λ_ _=>rfl,by simp⟩
 |o::l,acc=>by
  obtain⟨h1,h2⟩:=oq l (acc.push (wl acc o.after.toList 0));have hold: ∀j,j<acc.size->(fB (o::l) acc).getD j 0=acc.getD j 0:=by
   intro j hj;simp only[fB];rw[h1 j (by simp;omega)];simp[Array.getD,hj,Array.getElem_push,show j<acc.size+1 by omega]
  refine⟨hold,λi o' ho=> ?_⟩;cases i with
  |zero=>
   simp at ho;subst ho;refine⟨acc,?_,λj hj=>⟨(hold j (by simpa using hj)).symm,by simp⟩⟩;simp only[fB,G3];rw[h1 acc.size (by simp)];simp[Array.getD]
  |succ i=>
   simp at ho;obtain⟨acc',h3,h4⟩:=h2 i o' ho;simp only[Array.size_push]at h3 h4;refine⟨acc',?_,λj hj=> ?_⟩;·rw[<-h3];simp only[fB];congr 1;omega
   ·have:=h4 j (by omega);exact⟨this.1,by omega⟩
theorem yl {ops:Array Oper}{i j:Nat}{o:Oper}(hj:ops[j]? =some o)(hb:((Region.before ops).getD j 0).testBit i=true)(hback: ∀e∈o.after.toList,Region.binds .any e=true->e.on<j):
  ∃e∈o.after.toList,Region.binds .any e=true/\(i=e.on∨(e.on<j/\((Region.before ops).getD e.on 0).testBit i=true)):=by
 rw[AE]at hb⊢;obtain⟨acc',h1,h2⟩:=(oq ops.toList #[]).2 j o (by simpa using hj);simp only[H3,Fg,Fy]at h1 h2;rw[h1]at hb;rcases fold1_bit _ _ hb with h|⟨e,he,hbd,hr⟩;·simp at h
 ·refine⟨e,he,hbd,?_⟩;rcases hr with hr|hr;·exact .inl hr
  ·have hlt:=hback e he hbd;exact .inr ⟨hlt,by rw[<-(h2 e.on hlt).1];exact hr⟩
structure OkD (ops:Array Oper)(m:Nat):Prop where
 back: ∀(j:Nat) o,ops[j]? =some o->∀e∈o.after.toList,Region.binds .any e=true->e.on<j
 free: ∀(j:Nat) o,ops[j]? =some o->j<m->∀(i:Nat) oi,i<m->ops[i]? =some oi->i≠j->(∀d,oi.dst=some d->o.dst≠some d)/\∀d,oi.dst=some d->d∈o.looksAt ops->if i<j then((Region.before ops).getD j 0).testBit i=true else((Region.before ops).getD i 0).testBit j=true
 tail: ∀(j:Nat) o,ops[j]? =some o->m<=j->∀i,i<j->((Region.before ops).getD j 0).testBit i=true
theorem Bn {ops:Array Oper}{m:Nat}(h:okW ops m=true):OkD ops m:=by
 unfold okW at h;simp only[EN,ES]at h;have hj: ∀(j:Nat) o,ops[j]? =some o->_:=λj o ho=>h j (EU.1 ho).1;refine⟨?_,?_,?_⟩
 ·intro j o ho e he hb;have:=h j (EU.1 ho).1;simp only[ho,EL,EN]at this;have h2:=this.1 e he;simp only[hb,Bool.not_true,I2]at h2;simpa[Gc]using h2
 ·intro j o ho hjm i oi him hoi hne;have:=h j (EU.1 ho).1;simp only[ho,EL,EN,ES]at this;have h2:=this.2;rw[E6 hjm]at h2;simp only[EL,EN,ES]at h2;have h3:=h2.2 i him;simp only[hoi,Fs,beq_iff_eq,EL,FZ,beq_eq_false_iff_ne,ne_eq]at h3;obtain⟨h4,h5⟩:=h3.resolve_left hne;refine⟨λd hd e=> ?_,λd hd hm=> ?_⟩
  ·rcases h4 with h4|h4;·rw[hd]at h4;cases h4
   ·exact h4 (hd.trans e.symm)
  rw[hd]at h5;simp only[Fs,FZ,List.contains_eq_mem,decide_eq_false_iff_not]at h5;have h6:=h5.resolve_left (λh=>h hm);split;·rename_i hlt;rw[E6 hlt]at h6;exact h6
  ·rename_i hlt;rw[E4 hlt]at h6;exact h6
 ·intro j o ho hmj i hij;have:=h j (EU.1 ho).1;simp only[ho,EL,EN,ES]at this;have h2:=this.2;rw[E4 (by omega)]at h2;simp only[EN,ES]at h2;exact h2 i hij
def ur (ops:Array Oper)(L:Array Bool):Prop:= ∀(k:Nat) o,L.getD k false=true->ops[k]? =some o->∀e∈o.after.toList,Region.binds .any e=true->L.getD e.on false=true
theorem dZ {ops:Array Oper}{m:Nat}(hok:OkD ops m){L:Array Bool}(hc:ur ops L): ∀(j:Nat) o,ops[j]? =some o->(∀e∈o.after.toList,Region.binds .any e=true->L.getD e.on false=true)->
  ∀i,((Region.before ops).getD j 0).testBit i=true->L.getD i false=true:=by
 intro j
 induction j using Nat.strongRecOn with
 |_ j ih=>
  intro o ho hl i hb;obtain⟨e,he,hbd,hr⟩:=yl ho hb (hok.back j o ho);rcases hr with rfl|⟨hlt,hb2⟩;·exact hl e he hbd
  ·have hj:j<ops.size:=(EU.1 ho).1;have hoe:ops[e.on]? =some ops[e.on]:=Eu (by omega);exact ih e.on hlt _ hoe (hc e.on _ (hl e he hbd) hoe) i hb2
theorem wi {L:Array Bool}{j k:Nat}(hj:j<L.size):(L.setIfInBounds j true).getD k false=true↔L.getD k false=true∨k=j:=by
 by_cases e:j=k;·subst e;simp[F8,hj]
 ·simp[F8,Hi,e,Ne.symm e]
theorem kq {α:Type}{p q:α->Bool}: ∀(l:List α) (x:α),(∀y,q y=true->p y=true)->x∈l->p x=true->q x=false->(l.filter q).length<(l.filter p).length
 | [],x,_,h,_,_=>by cases h
 |y::l,x,hpq,hm,hp,hq=>by
  have hle: ∀(l:List α),(l.filter q).length<=(l.filter p).length:=by
   intro l
   induction l with
   |nil=>simp
   |cons z l ih=>
    simp only[List.filter_cons];cases hqz:q z with
    |true=>simp[hpq z hqz];omega
    |false=>cases hpz:p z<;>simp<;>omega
  simp only[List.filter_cons];cases hm with
  |head=>rw[hp,hq];simp;have:=hle l;omega
  |tail _ hm=>
   have ih:=kq l x hpq hm hp hq;cases hqy:q y with
   |true=>simp[hpq y hqy];omega
   |false=>cases hpy:p y<;>simp<;>omega
def rO (ops:Array Oper)(L:Array Bool):Nat:=((List.range ops.size).filter λi=> !L.getD i true).length
theorem u0 {ops:Array Oper}{m:Nat}(hok:OkD ops m){L:Array Bool}(hs:L.size=ops.size){i:Nat}(hi:i<ops.size)(hl:L.getD i false=false):Region.ready .any ops L≠[]:=by
 induction i using Nat.strongRecOn with
 |_ i ih=>
  by_cases h: ∃k,k<i/\L.getD k false=false
  ·obtain⟨k,hk,hlk⟩:=h;exact ih k hk (by omega) hlk
  ·have hr:i∈Region.ready .any ops L:=by
    refine mem_ready.2 ⟨?_,ops[i],Eu hi,λe he hb=> ?_⟩;·simp only[Array.getD,hs,hi,dite_true]at hl⊢;exact hl
    ·have hlt:=hok.back i ops[i] (Eu hi) e (by simpa using he) hb;cases hx:L.getD e.on false with
     |true=>rfl
     |false=>exact EX ⟨e.on,hlt,hx⟩ h
   intro hn;rw[hn]at hr;cases hr
theorem lZ {ops:Array Oper}{L:Array Bool}{j:Nat}(hs:L.size=ops.size)(hj:j<ops.size)(hl:L.getD j true=false):rO ops (L.setIfInBounds j true)<rO ops L:=by
 refine kq _ j (λy hy=> ?_) (ES.2 hj) (by simp only[hl];rfl) ?_
 ·by_cases e:j=y
  ·subst e;simp[F8,hs,hj]at hy
  ·simpa[F8,Hi,e]using hy
 ·simp[F8,hs,hj]
theorem qP {P:Program}{ops:Array Oper}{Q:Exit->Act->World->Prop}{m:Nat}(hok:OkD ops m): ∀(r k:Nat),k+r=ops.size->m<=k->∀(fuel:Nat) (L:Array Bool) (a:Act) (w:World),L.size=ops.size->(∀i,L.getD i false=true↔i<k)->rO ops L<=fuel->
  wpOps P ops Q (List.range' k r) a w->wpAny P .any ops Q fuel L a w
 |0,k,hk,hm,fuel,L,a,w,hs,hL,ho,h=>by
  have hr:Region.ready .any ops L=[]:=by
   cases hr:Region.ready .any ops L with
   |nil=>rfl
   |cons j js=>
    have hj:j∈Region.ready .any ops L:=(by rw[hr];exact .head _);obtain⟨h1,o,h2,_⟩:=mem_ready.1 hj;have hlt:=(EU.1 h2).1;have:=(hL j).2 (by omega);simp only[Array.getD,hs,hlt,dite_true]at h1 this;rw[h1]at this;cases this
  have hq:Q .normal a w:=(by simpa[wpOps]using h);cases fuel with
  |zero=>exact⟨hr,hq⟩
  |succ fuel=>exact⟨λ_=>hq,λi hi=>by rw[hr]at hi;cases hi⟩
 |r+1,k,hk,hm,fuel,L,a,w,hs,hL,ho,h=>by
  have hkl:k<ops.size:=(by omega);have hun:L.getD k false=false:=by
   cases hx:L.getD k false with
   |false=>rfl
   |true=>have:=(hL k).1 hx;omega
  have hne:=u0 hok hs hkl hun;have hpos:0<rO ops L:=by
   have:L.getD k true=false:=(by simp only[Array.getD,hs,hkl,dite_true]at hun⊢;exact hun);have:=lZ hs hkl this;omega
  cases fuel with
  |zero=>omega
  |succ fuel=>
   refine⟨λh0=>EX h0 hne,λj hj=> ?_⟩;obtain⟨h1,o,h2,h3⟩:=mem_ready.1 hj;have hlt:=(EU.1 h2).1;have hjk:j=k:=by
    rcases Hz j k with h4|h4|h4
    ·have:=(hL j).2 h4;simp only[Array.getD,hs,hlt,dite_true]at h1 this;rw[h1]at this;cases this
    ·exact h4
    ·have hc:ur ops L:=by
      intro i oi hi hoi e he hb;have hik:=(hL i).1 hi;exact(hL e.on).2 (Nat.lt_trans (hok.back i oi hoi e he hb) hik)
     have hb:=hok.tail j o h2 (by omega) k h4;have:=dZ hok hc j o h2 (λe he hb=>h3 e (by simpa using he) hb) k hb;rw[hun]at this;cases this
   subst hjk;rw[List.range'_succ,wpOps_cons]at h;refine wpOp_mono (λa' w' h'=> ?_) h;refine qP hok r (j+1) (by omega) (by omega) fuel _ a' w' (by simp[hs]) (λi=> ?_) ?_ h';·rw[wi (by omega),hL i];omega
   ·have:=lZ hs hlt h1;omega
theorem BW {K:Ctx}{ops:Array Oper}{m:Nat}(hok:OkD ops m)(hm:m<=ops.size){V0 V':EnvF}{n0 n':Nat}{rs:Nat->RecD}{W:Nat->EnvF}
  (h0:W 0=V0) (h1:W m=V') (h2:(rs 0).n=n0) (h3:(rs m).n=n') (h4: ∀i,i<m->W (i+1)=upd (W i) (rs i)/\(rs (i+1)).n=(rs i).n+(rs i).ad.length)
  (h5: ∀(i:Nat) o,i<m->ops[i]? =some o->RO K ops (W i) o (rs i)) (hbef: ∀k j q c,k<m->j<m->j<k->(rs k).wr=some (q,c)->(rs j).n<=q->q<(rs j).n+(rs j).ad.length->((Region.before ops).getD k 0).testBit j=true)
  (h6: ∀k j,k<m->j<m->k≠j->∀q c o,(rs k).wr=some (q,c)->ops[j]? =some o->fw ops k j=true∨∀x∈o.op.operands,∀sv,(W j).get x=some sv->sv.inU (· ≠q))
  (hsc: ∀s sv,V0.slot s=some sv->sv.inU (· <n0))
  {Q:Exit->Act->World->Prop} (hT: ∀a w φ,RelW K V' (· <n') φ a w->wpOps K.P ops Q (List.range' m (ops.size-m)) a w):
  ∀(fuel:Nat) (L:Array Bool) (φ:Nat->Value) (a:Act) (w:World),L.size=ops.size->(∀k,L.getD k false=true->k<m)->ur ops L->rO ops L<=fuel->
   RelW K (ov V0 rs (λk=>L.getD k false=true)) (λq=>q<n0∨∃k,L.getD k false=true/\(rs k).n<=q/\q<(rs k).n+(rs k).ad.length) φ a w->wpAny K.P .any ops Q fuel L a w:=by
 have hdst: ∀(i:Nat) o,i<m->ops[i]? =some o->o.dst=(rs i).d:=by
  intro i o hi ho;have hr:=h5 i o hi ho;generalize rs i=r at hr⊢;cases hr with
  |does _ hd _ _=>exact hd
  |skip _ hd _=>exact hd
  |sto _ hd _=>exact hd
  |app _ hd _ _=>exact hd
  |appf _ hd _ _ _=>exact hd
  |lraw _ hd _ _ _ _ _ _ _ _=>exact hd
  |cbox _ hd _ _ _=>exact hd
  |lmap _ hd _ _ _ _ _ _ _ _ _=>exact hd
 have hscope: ∀i,i<=m->∀s sv,(W i).slot s=some sv->sv.inU (· <(rs i).n):=by
  intro i
  induction i with
  |zero=>intro _ s sv h;rw[h0]at h;rw[h2];exact hsc s sv h
  |succ i ih=>
   intro hi s sv h;have hoi:ops[i]? =some (ops[i]'(by omega)):=Eu (by omega);have hr:=h5 i _ (by omega) hoi;have hprev:=ih (by omega);rw[(h4 i (by omega)).1]at h;rw[(h4 i (by omega)).2];have hup: ∀sv:SV,sv.inU (· <(rs i).n)->sv.inU (· <(rs i).n+(rs i).ad.length):=λsv h=>SV.in_mono h λq hq=>by
    show q<_;have:q<(rs i).n:=hq;omega
   generalize rs i=r at hr h hprev hup⊢;cases hr with
   | @does d n sv' ad hw hd hdl hdo=>
    simp only[upd,E9]at h;split at h
    ·obtain rfl:=E7 h;refine SV.in_mono (hdo.in_ hprev) λq hq=> ?_;rcases hq with hq|hq
     ·show q<_;have:q<n:=hq;omega
     ·exact hq.2
    ·exact hup sv (hprev s sv h)
   | @skip d n hw hd hdl=>
    simp only[upd,E9]at h;split at h
    ·obtain rfl:=E7 h;intro s hs;cases hs
    ·exact hup sv (hprev s sv h)
   | @sto n q c hw hd hdo=>
    simp[upd]at h;exact hup sv (hprev s sv h)
   | @app d n src c hw hd hdl hdo=>
    simp only[upd,E9]at h;split at h
    ·obtain rfl:=E7 h;show n<n+1;omega
    ·exact hup sv (hprev s sv h)
   | @appf d n q sz e fr rows hw hd hdl hMn hdo=>
    simp only[upd,E9]at h;split at h;·obtain rfl:=E7 h;trivial
    ·exact hup sv (hprev s sv h)
   | @lraw d n g q t x sx sv' fr cs u hw hd hdl ho hx hc hp hg hall hsv=>
    simp only[upd,E9]at h;split at h
    ·obtain rfl:=E7 h;rcases hsv with rfl|⟨_,rfl⟩<;>exact hup (.eq u q) (hprev g _ hg)
    ·exact hup sv (hprev s sv h)
   | @cbox d n g q q2 sv' ad hw hd hdl hdo hall=>
    simp only[upd,E9]at h;split at h
    ·obtain rfl:=E7 h;refine SV.in_mono (hdo.in_ (U:=(· <n))) λq hq=> ?_;rcases hq with hq|hq
     ·show q<_;have:q<n:=hq;exact Gv this (I7 _ _)
     ·exact hq.2
    ·exact hup sv (hprev s sv h)
   | @lmap d n g q m' t x i si fi fr pi b l u hw hd hdl ho hx hm' hi hp hsem hg hall=>
    simp only[upd,E9]at h;split at h
    ·obtain rfl:=E7 h;exact hup (.eq u q) (hprev g _ hg)
    ·exact hup sv (hprev s sv h)
 have hlow: ∀i q c,i<m->(rs i).wr=some (q,c)->q<(rs i).n:=by
  intro i q c hi hw;have hoi:ops[i]? =some (ops[i]'(by omega)):=Eu (by omega);have hr:=h5 i _ hi hoi;have hprev:=hscope i (by omega);generalize rs i=r at hr hw hprev⊢;cases hr with
  |does _ _ _ _=>cases hw
  |skip _ _ _=>cases hw
  |lraw _ _ _ _ _ _ _ _ _ _=>cases hw
  |cbox _ _ _ _ _=>cases hw
  |lmap _ _ _ _ _ _ _ _ _ _ _=>cases hw
  |sto _ _ hdo=>
   cases hw;cases hdo with
   |mk ho hx hq hy hp hi hsz hcc=>exact dY hprev hx
  |app _ _ _ hdo=>
   cases hdo with
   |nil _ _ _ _ _ _ _ _ _ _ _ _ _ _=>cases hw
   | @own args tys s y t e q sz fr fy rows rows2 sy inf z ho ha ht hx=>
    cases hw;exact dY hprev hx
  |appf _ _ _ _ hdo=>
   cases hdo with
   | @own args tys s y t e q sz fr fy rows rows2 sy inf z ho ha ht hx=>
    cases hw;exact dY hprev hx
 have hs:Sound V0 rs m:=by
  refine⟨λi j s hi hj e e2=> ?_,λi hi=>(h4 i hi).2,hlow⟩
  ·by_cases hij:i=j;·exact hij
   ·have hoi:ops[i]? =some (ops[i]'(by omega)):=Eu (by omega);have hoj:ops[j]? =some (ops[j]'(by omega)):=Eu (by omega);have:=(hok.free j _ hoj hj i _ hi hoi hij).1 s ((hdst i _ hi hoi).trans e);exact EX ((hdst j _ hj hoj).trans e2) this
 have hWi: ∀i,i<=m->W i=ov V0 rs (· <i):=yK hs h0 λi hi=>(h4 i hi).1;have hnn: ∀i,i<=m->n0<=(rs i).n:=λi hi=>(by rw[<-h2];exact hs.mono (Er _) hi);have hinterval: ∀i,i<=m->∀q,q<(rs i).n->q<n0∨∃k,k<i/\(rs k).n<=q/\q<(rs k).n+(rs k).ad.length:=by
  intro i
  induction i with
  |zero=>intro _ q hq;rw[h2]at hq;exact .inl hq
  |succ i ih=>
   intro hi q hq;rw[(h4 i (by omega)).2]at hq;by_cases hlt:q<(rs i).n
   ·rcases ih (by omega) q hlt with h|⟨k,hk,h⟩;·exact .inl h
    ·exact .inr ⟨k,by omega,h⟩
   ·exact .inr ⟨i,by omega,by omega,hq⟩
 intro fuel
 induction fuel with
 |zero=>
  intro L φ a w hsz hLm hc ho hrel;have hall: ∀i,i<ops.size->L.getD i false=true:=by
   intro i hi;cases hx:L.getD i false with
   |true=>rfl
   |false=>
    have h1:L.getD i true=false:=(by simp only[Array.getD,hsz,hi,dite_true]at hx⊢;exact hx);have:=lZ hsz hi h1;omega
  have hme:m=ops.size:=by
   rcases IA m ops.size with h|h;·exact EX (hLm m (hall m h)) (I1 _)
   ·omega
  have hL: ∀i,L.getD i false=true↔i<m:=λi=>⟨hLm i,λhi=>hall i (by omega)⟩;have hV:ov V0 rs (λk=>L.getD k false=true)=V':=(by rw[<-h1,hWi m (EO _)];exact iq hL);have hU:(λq=>q<n0∨∃k,L.getD k false=true/\(rs k).n<=q/\q<(rs k).n+(rs k).ad.length)=(· <n'):=by
   funext q;simp only[eq_iff_iff];rw[<-h3];constructor
   ·rintro(h|⟨k,hk,h⟩);·have:=hnn m (EO _);omega
    ·have:=hs.mono (i:=k+1) (j:=m) ((hL k).1 hk) (EO _);have:=hs.nn k ((hL k).1 hk);omega
   ·intro h;rcases hinterval m (EO _) q h with h|⟨k,hk,h⟩;·exact .inl h
    ·exact .inr ⟨k,(hL k).2 hk,h⟩
  rw[hV,hU]at hrel;exact qP hok (ops.size-m) m (by omega) (EO _) 0 L a w hsz hL ho (hT a w φ hrel)
 |succ fuel ih=>
  intro L φ a w hsz hLm hc ho hrel;by_cases hfull: ∀i,i<m->L.getD i false=true
  ·have hL: ∀i,L.getD i false=true↔i<m:=λi=>⟨hLm i,hfull i⟩;have hV:ov V0 rs (λk=>L.getD k false=true)=V':=(by rw[<-h1,hWi m (EO _)];exact iq hL);have hU:(λq=>q<n0∨∃k,L.getD k false=true/\(rs k).n<=q/\q<(rs k).n+(rs k).ad.length)=(· <n'):=by
    funext q;simp only[eq_iff_iff];rw[<-h3];constructor
    ·rintro(h|⟨k,hk,h⟩);·have:=hnn m (EO _);omega
     ·have:=hs.mono (i:=k+1) (j:=m) ((hL k).1 hk) (EO _);have:=hs.nn k ((hL k).1 hk);omega
    ·intro h;rcases hinterval m (EO _) q h with h|⟨k,hk,h⟩;·exact .inl h
     ·exact .inr ⟨k,(hL k).2 hk,h⟩
   rw[hV,hU]at hrel;exact qP hok (ops.size-m) m (by omega) (EO _) (fuel+1) L a w hsz hL ho (hT a w φ hrel)
  ·obtain⟨i0,hi0⟩:=Classical.not_forall.1 hfull;obtain⟨hi0m,hi0l⟩:=Classical.not_imp.1 hi0;have hi0l:L.getD i0 false=false:=by cases hx:L.getD i0 false with
    |false=>rfl
    |true=>exact EX hx hi0l
   refine⟨λhn=>EX hn (u0 hok hsz (by omega) hi0l),λj hj=> ?_⟩;obtain⟨hj1,o,hjo,hj3⟩:=mem_ready.1 hj;have hj3': ∀e∈o.after.toList,Region.binds .any e=true->L.getD e.on false=true:=λe he hb=>hj3 e (by simpa using he) hb;have hjl:j<ops.size:=(EU.1 hjo).1;have hjf:L.getD j false=false:=(by simp only[Array.getD,hsz,hjl,dite_true]at hj1⊢;exact hj1);have hjm:j<m:=by
    rcases IA j m with h|h;·exact h
    ·have:=dZ hok hc j o hjo hj3' i0 (hok.tail j o hjo h i0 (by omega));rw[hi0l]at this;cases this
   have hro:=h5 j o hjm hjo;have hst:=h6;have hslot: ∀t,t∈o.looksAt ops->(ov V0 rs (λk=>L.getD k false=true)).slot t=(W j).slot t:=by
    intro t ht;rw[hWi j (by omega)];by_cases h: ∃i,i<m/\(rs i).d=some t
    ·obtain⟨i,him,hdi⟩:=h;have hoi:ops[i]? =some (ops[i]'(by omega)):=Eu (by omega);have hdst:=hdst i _ him hoi;rcases Hz i j with hij|hij|hij
     ·have hb:=(hok.free j o hjo hjm i _ him hoi (by omega)).2 t (by rw[hdst,hdi]) ht;rw[E6 hij]at hb;have hl:=dZ hok hc j o hjo hj3' i hb;rw[lY hs hLm (k:=i) hl hdi,lY hs (S:=(· <j)) (λk hk=>by omega) hij hdi]
     ·subst hij;rw[bl,bl]
      ·intro k hk e;have:=hs.inj k i t (by omega) him e hdi;omega
      ·intro k hk e;have:=hs.inj k i t (hLm k hk) him e hdi;subst this;rw[hjf]at hk;cases hk
     ·have hb:=(hok.free j o hjo hjm i _ him hoi (by omega)).2 t (by rw[hdst,hdi]) ht;rw[E4 (by omega)]at hb;have hil:L.getD i false=false:=by
       cases hx:L.getD i false with
       |false=>rfl
       |true=>
        have:=dZ hok hc i _ hoi (hc i _ hx hoi) j hb;rw[hjf]at this;cases this
      rw[bl,bl]
      ·intro k hk e;have:=hs.inj k i t (by omega) him e hdi;omega
      ·intro k hk e;have:=hs.inj k i t (hLm k hk) him e hdi;subst this;rw[hil]at hk;cases hk
    ·rw[bl (λk hk e=>h ⟨k,hLm k hk,e⟩),bl (λk hk e=>h ⟨k,by omega,e⟩)]
   have hordL: ∀k,k<m->k≠j->fw ops k j=true->(L.getD k false=true↔k<j):=by
    intro k hk hkj ho;have hok':ops[k]? =some (ops[k]'(by omega)):=Eu (by omega);unfold fw at ho;split at ho
    ·rename_i hlt;exact⟨λ_=>hlt,λ_=>dZ hok hc j o hjo hj3' k ho⟩
    ·rename_i hlt;refine⟨λhl=> ?_,λh=>EX h hlt⟩;have:=dZ hok hc k _ hok' (hc k _ hl hok') j ho;rw[hjf]at this;cases this
   have hag:gV (W j) (ov V0 rs (λk=>L.getD k false=true)) o:=by
    intro x hx;have hget:(ov V0 rs (λk=>L.getD k false=true)).get x=(W j).get x:=by
     cases x with
     |tmp t=>
      refine hslot t ?_;simp only[Oper.looksAt,EW,List.mem_filterMap];exact .inl ⟨.tmp t,by simpa using hx,rfl⟩
     |const v=>rfl
     |func f=>rfl
     |global g=>rfl
    refine⟨hget,λsv hsv=> ?_⟩;have h60:sv.inU (· <(rs j).n):=dY (hscope j (by omega)) hsv;have h7:=dY (U:=λq=>q<n0∨∃k,L.getD k false=true/\(rs k).n<=q/\q<(rs k).n+(rs k).ad.length) hrel.sin (hget.trans hsv);have h10:sv.inU (λq=> ∀k c,k<m->k≠j->(rs k).wr=some (q,c)->fw ops k j=true):=by
     have one: ∀q,(∀k c,k<m->k≠j->(rs k).wr=some (q,c)->fw ops k j=true∨∀sv,(W j).get x=some sv->sv.inU (· ≠q)):=λq k c hk hkj hw=>(h6 k j hk hjm hkj q c o hw hjo).imp id λh=>h x hx;cases sv with
     |tupB ag l=>
      intro s hs';cases s with
      |ref q=>exact λk c hk hkj hw=>(one q k c hk hkj hw).elim id λh=>EX Y (h _ hsv _ hs')
      |optr q i off st=>exact λk c hk hkj hw=>(one q k c hk hkj hw).elim id λh=>EX Y (h _ hsv _ hs')
      |fref _ q=>exact λk c hk hkj hw=>(one q k c hk hkj hw).elim id λh=>EX Y (h _ hsv _ hs')
      |eq _ q=>exact λk c hk hkj hw=>(one q k c hk hkj hw).elim id λh=>EX Y (h _ hsv _ hs')
      |tupB ag l=>exact(h60 _ hs').elim
      |_=>trivial
     |ref q=>exact λk c hk hkj hw=>(one q k c hk hkj hw).elim id λh=>EX Y (h _ hsv)
     |optr q i off st=>exact λk c hk hkj hw=>(one q k c hk hkj hw).elim id λh=>EX Y (h _ hsv)
     |fref _ q=>exact λk c hk hkj hw=>(one q k c hk hkj hw).elim id λh=>EX Y (h _ hsv)
     |eq _ q=>exact λk c hk hkj hw=>(one q k c hk hkj hw).elim id λh=>EX Y (h _ hsv)
     |_=>trivial
    have key: ∀q,q<(rs j).n->(q<n0∨∃k,L.getD k false=true/\(rs k).n<=q/\q<(rs k).n+(rs k).ad.length)->(∀k c,k<m->k≠j->(rs k).wr=some (q,c)->fw ops k j=true)->(ov V0 rs (λk=>L.getD k false=true)).own q=(W j).own q:=by
     intro q hq1 hq2 hq4;rw[hWi j (by omega)];have hlast:fG rs (λk=>L.getD k false=true) q=fG rs (λk=>k<j) q:=by
      have:fG rs (λk=>L.getD k false=true/\k<m) q=fG rs (λk=>k<j/\k<m) q:=by
       refine nY (m:=m) (λk hk=>hk.2) λk c hw=> ?_;by_cases hkm:k<m
       ·by_cases hkj:k=j;·subst hkj;simp[hjf]
        ·simp only[hkm,and_true];exact hordL k hkm hkj (hq4 k c hkm hkj hw)
       ·simp[hkm]
      have e1:(λk=>L.getD k false=true/\k<m)=(λk=>L.getD k false=true):=funext λk=>(by simp only[eq_iff_iff];exact⟨λh=>h.1,λh=>⟨h,hLm k h⟩⟩);have e2:(λk=>k<j/\k<m)=(λk=>k<j):=funext λk=>(by simp only[eq_iff_iff];omega);rw[e1,e2]at this;exact this
     rcases hq2 with hq2|⟨k,hk,hq3⟩;·rw[fe (λk hk hq=>by have:=hnn k (HH (hLm k hk));omega),fe (λk hk hq=>by have:=hnn k (by omega);omega),hlast]
     ·have hkj:k<j:=by
       rcases IA k j with h|h;·exact h
       ·have:=hs.mono h (HH (hLm k hk));omega
      rw[pR hs hLm hk hq3,pR hs (S:=(· <j)) (λk hk=>by omega) hkj hq3,hlast]
    cases sv with
    |tupB ag l=>
     intro s hs';have h8:=h60 s hs';have h9:=h7 s hs';have h11:=h10 s hs';cases s with
     |ref q=>exact key q h8 h9 h11
     |optr q i off st=>exact key q h8 h9 h11
     |fref _ q=>exact key q h8 h9 h11
     |eq _ q=>exact key q h8 h9 h11
     |tupB ag l=>exact h8
     |_=>trivial
    |ref q=>exact key q h60 h7 h10
    |optr q i off st=>exact key q h60 h7 h10
    |fref _ q=>exact key q h60 h7 h10
    |eq _ q=>exact key q h60 h7 h10
    |_=>trivial
   have hwant:wants ops (ov V0 rs (λk=>L.getD k false=true)) o=wants ops (W j) o:=by
    unfold wants;cases hg:o.guard with
    |none=>rfl
    |some g=>
     obtain⟨gi,want⟩:=g;simp only[];cases hoj:ops[gi]? with
     |none=>rfl
     |some oj=>
      simp only[];cases hdj:oj.dst with
      |none=>rfl
      |some dg=>
       simp only[];rw[hslot dg (by simp[Oper.looksAt,hg,hoj,hdj])]
   have hS': ∀k,(L.setIfInBounds j true).getD k false=true↔(L.getD k false=true∨k=j):=λk=>wi (by omega);have hmaxj: ∀q c k c',(rs j).wr=some (q,c)->L.getD k false=true->(rs k).wr=some (q,c')->k<j:=by
    intro q c k c' hwj hk hwk;have hkm:=hLm k hk;have hkj:k≠j:=λe=>(by subst e;rw[hjf]at hk;cases hk);have hord:fw ops k j=true:=by
     refine(h6 k j hkm hjm hkj q c' o hwk hjo).elim id λh=> ?_;have hr:=hro;generalize rs j=r at hr hwj;cases hr with
     |does _ _ _ _=>cases hwj
     |skip _ _ _=>cases hwj
     |lraw _ _ _ _ _ _ _ _ _ _=>cases hwj
     |cbox _ _ _ _ _=>cases hwj
     |lmap _ _ _ _ _ _ _ _ _ _ _=>cases hwj
     |sto _ _ hdo=>
      cases hwj;cases hdo with
      |mk ho hx hq hy hp hi hsz hcc=>exact EX Y (h _ (by rw[ho];simp[Op.operands]) _ hx)
     |app _ _ _ hdo=>
      cases hdo with
      |nil _ _ _ _ _ _ _ _ _ _ _ _ _ _=>cases hwj
      | @own args tys s y t e q sz fr fy rows rows2 sy inf z ho ha ht hx=>
       cases hwj;exact EX Y (h s (by rw[ho];have:s∈args.toList:=(by rw[ha];exact .head _);simp[Op.operands,Call.operands];simpa using this) _ hx)
     |appf _ _ _ _ hdo=>
      cases hdo with
      | @own args tys s y t e q sz fr fy rows rows2 sy inf z ho ha ht hx=>
       cases hwj;exact EX Y (h s (by rw[ho];have:s∈args.toList:=(by rw[ha];exact .head _);simp[Op.operands,Call.operands];simpa using this) _ hx)
    exact(hordL k hkm hkj hord).1 hk
   have hov:ov V0 rs (λk=>(L.setIfInBounds j true).getD k false=true)=upd (ov V0 rs (λk=>L.getD k false=true)) (rs j):=by
    rw[<-Bg hs hLm hjm (by rw[hjf];simp) hmaxj λk q c hk hw hr=>by
     have hkm:=hLm k hk;have hkj:j<k:=by
      rcases IA j k with h|h;·exact h
      ·have:=hs.mono h (HH hjm);have:=hlow k q c hkm hw;omega
     have hok':ops[k]? =some (ops[k]'(by omega)):=Eu (by omega);have:=dZ hok hc k _ hok' (hc k _ hk hok') j (hbef k j q c hkm hjm hkj hw hr.1 hr.2);rw[hjf]at this;cases this]
    exact iq hS'
   have hc':ur ops (L.setIfInBounds j true):=by
    intro k ok hk hok' e he hb;rcases (hS' k).1 hk with hk|rfl;·exact(hS' _).2 (.inl (hc k ok hk hok' e he hb))
    ·rw[hjo]at hok';obtain rfl:=E7 hok';exact(hS' _).2 (.inl (hj3' e he hb))
   have hnext: ∀φ' a' w',RelW K (upd (ov V0 rs (λk=>L.getD k false=true)) (rs j)) (eQ (λq=>q<n0∨∃k,L.getD k false=true/\(rs k).n<=q/\q<(rs k).n+(rs k).ad.length) (rs j).n (rs j).ad) φ' a' w'->
     wpAny K.P .any ops Q fuel (L.setIfInBounds j true) a' w':=by
    intro φ' a' w' hr;refine ih _ φ' a' w' (by simp[hsz]) (λk hk=>((hS' k).1 hk).elim (hLm k) (λe=>e▸hjm)) hc' ?_ ?_;·have:=lZ hsz hjl hj1;omega
    ·rw[hov];have hU:(λq=>q<n0∨∃k,(L.setIfInBounds j true).getD k false=true/\(rs k).n<=q/\q<(rs k).n+(rs k).ad.length)=eQ (λq=>q<n0∨∃k,L.getD k false=true/\(rs k).n<=q/\q<(rs k).n+(rs k).ad.length) (rs j).n (rs j).ad:=by
      funext q;simp only[eQ,eq_iff_iff];constructor
      ·rintro(h|⟨k,hk,h⟩);·exact .inl (.inl h)
       ·rcases (hS' k).1 hk with hk|rfl;·exact .inl (.inr ⟨k,hk,h⟩)
        ·exact .inr h
      ·rintro((h|⟨k,hk,h⟩)|h);·exact .inl h
       ·exact .inr ⟨k,(hS' k).2 (.inl hk),h⟩
       ·exact .inr ⟨j,(hS' j).2 (.inr Y),h⟩
     rw[hU];exact hr
   unfold wpOp;simp only[hjo];have hfresh: ∀q,(rs j).n<=q->q<(rs j).n+(rs j).ad.length->¬(q<n0∨∃k,L.getD k false=true/\(rs k).n<=q/\q<(rs k).n+(rs k).ad.length):=by
    intro q hq1 hq2 hq3;rcases hq3 with hq3|⟨k,hk,hq3⟩;·have:=hnn j (by omega);omega
    ·have:=hs.dis (hLm k hk) hjm hq3 ⟨hq1,hq2⟩;subst this;rw[hjf]at hk;cases hk
   generalize rs j=r at hro hnext hfresh;cases hro with
   | @does d n sv ad hw hd hdl hdo=>
    rw[aH hrel (hwant.trans hw),E6 Y];refine .inl ((hdo.congr hag).sound hrel (λq hq1 hq2 hq3=>hfresh q hq1 hq2 hq3) λv w' φ' hr1 hr2 hr3=> ?_);refine hnext φ' _ _ ?_;rw[hd];exact hr1.put hdl hr2 hr3 Y (λs sv' hsv=>by
     simp only[upd,E9]at hsv;split at hsv;·rename_i e;exact .inl ⟨e.symm,(E7 hsv).symm⟩
     ·rename_i e;exact .inr ⟨Ne.symm e,hsv⟩)
   | @skip d n hw hd hdl=>
    rw[aH hrel (hwant.trans hw),E4 (by simp)];refine hnext φ _ _ ?_;rw[hd];have hput:=hrel.put (V':=upd (ov V0 rs (λk=>L.getD k false=true)) ⟨some d,.tup [],[],n,none⟩) hdl (v:=undef) (sv:= .tup []) ⟨[],rfl,.nil⟩ (by intro s hs;cases hs) (by
     funext q;exact cK _ _ _) (λs sv' hsv'=>by
      simp only[upd,E9]at hsv';split at hsv';·rename_i e;exact .inl ⟨e.symm,(E7 hsv').symm⟩
      ·rename_i e;exact .inr ⟨Ne.symm e,hsv'⟩)
    rw[gH];exact hput
   | @sto n q c hw hd hdo=>
    rw[aH hrel (hwant.trans hw),E6 Y];cases hdo.congr hag with
    |mk ho hx hq hy hp hi hsz hcc=>
     refine .inl (nJ hrel ho hx hq hy hp hi hsz hcc λw' hr1=> ?_);rw[hd];refine hnext φ _ _ ?_;rw[gH];have e:upd (ov V0 rs (λk=>L.getD k false=true)) ⟨none,.nilsl,[],n,some (q,some c)⟩=⟨(ov V0 rs (λk=>L.getD k false=true)).slot,λj=>if j=q then some c else(ov V0 rs (λk=>L.getD k false=true)).own j⟩:=by
      refine EnvF.ext (λs=>by simp[upd]) (λo=> ?_);simp only[upd];split;·rfl
      ·exact cK _ _ _
     rw[e];exact hr1
   | @app d n src c hw hd hdl hdo=>
    rw[aH hrel (hwant.trans hw),E6 Y];have hn: ¬(n<n0∨∃k,L.getD k false=true/\(rs k).n<=n/\n<(rs k).n+(rs k).ad.length):=hfresh n (EO _) (by show n<n+1;omega);have fin: ∀φ' w',RelW K ⟨(ov V0 rs (λk=>L.getD k false=true)).slot,aK (ov V0 rs (λk=>L.getD k false=true)).own src n c⟩ (λi=>(i<n0∨∃k,L.getD k false=true/\(rs k).n<=i/\i<(rs k).n+(rs k).ad.length)∨i=n) φ' a w'->(∀q,src=some q->q≠n)->
      wpAny K.P .any ops Q fuel (L.setIfInBounds j true) (a.put o.dst (φ' n)) w':=by
     intro φ' w' hr1 hqn;refine hnext φ' _ _ ?_;rw[hd];have hU:eQ (λq=>q<n0∨∃k,L.getD k false=true/\(rs k).n<=q/\q<(rs k).n+(rs k).ad.length) n [c]=λi=>(i<n0∨∃k,L.getD k false=true/\(rs k).n<=i/\i<(rs k).n+(rs k).ad.length)∨i=n:=by
      funext i;simp only[eQ,FY,eq_iff_iff];exact or_congr Iff.rfl (by omega)
     rw[hU];have ho:(upd (ov V0 rs (λk=>L.getD k false=true)) ⟨some d,.ref n,[c],n,src.map λq=>(q,none)⟩).own=aK (ov V0 rs (λk=>L.getD k false=true)).own src n c:=by
      funext i;have hadd:cN (ov V0 rs (λk=>L.getD k false=true)).own n [c] i=if i=n then some c else(ov V0 rs (λk=>L.getD k false=true)).own i:=by
       simp only[cN,FY];by_cases e:i=n;·subst e;rw[E6 (by omega),E6 Y];simp
       ·rw[E4 (by omega),E4 e]
      cases src with
      |none=>simp only[upd,GP,aK,hadd];rfl
      |some q=>
       have hne:=hqn q Y;simp only[upd,FJ,aK,hadd,E9];by_cases e:i=n;·subst e;rw[E4 (Ne.symm hne),E6 Y,E6 Y]
       ·rw[E4 e,E4 e];by_cases e2:i=q;·rw[E6 e2,E6 e2.symm]
        ·rw[E4 e2,E4 (Ne.symm e2)]
     exact hr1.put hdl (sv:= .ref n) Y (.inr Y) ho (λs sv' hsv=>by
      simp only[upd,E9]at hsv;split at hsv;·rename_i e;exact .inl ⟨e.symm,(E7 hsv).symm⟩
      ·rename_i e;exact .inr ⟨Ne.symm e,hsv⟩)
    cases hdo.congr hag with
    | @own args tys s y t e q sz fr fy rows rows2 sy inf z ho ha ht hx hq hy hp hu hi hsz hz hzs h0 hb1 hl2 hby=>
     have h63:rows.length+rows2.length<=maxLen:=by
      have:(rows.length+rows2.length)*1<=(rows.length+rows2.length)*inf.bytes:=HL _ hb1;have:maxLen=2 ^ 63-1:=rfl;omega
     refine .inl (eO hrel ho ha ht (.inl ⟨q,rfl,hx,hq⟩) hy hp hu hi hsz hz hzs h0 hl2 h63 hby hn λv w' φ' hr1 hv=> ?_);rw[hv];exact fin φ' w' hr1 λq' e=>by
      cases e;intro e;subst e;exact hn (hrel.inU _ _ hq)
    | @nil args tys s y t e fy rows2 sy inf z ho ha ht hx hy hp hu hi hz hzs h0 hb1 hl2 hby=>
     have h63:rows2.length<=maxLen:=by
      have:rows2.length*1<=rows2.length*inf.bytes:=HL _ hb1;have:maxLen=2 ^ 63-1:=rfl;omega
     refine .inl (eO hrel ho ha ht (.inr ⟨rfl,hx,rfl,rfl⟩) hy hp hu hi Y hz hzs h0 hl2 (by simpa using h63) (by simpa using hby) hn λv w' φ' hr1 hv=> ?_);rw[hv];exact fin φ' w' (by simpa using hr1) λq' e=>by cases e
   | @appf d n q sz e fr rows hw hd hdl hMn hdo=>
    rw[aH hrel (hwant.trans hw),E6 Y];obtain⟨n2,hn2⟩: ∃n2,¬(n2<n0∨∃k,L.getD k false=true/\(rs k).n<=n2/\n2<(rs k).n+(rs k).ad.length):=by
     refine⟨(rs m).n,?_⟩;rintro(h|⟨k,hk,h⟩);·have:=hnn m (EO _);omega
     ·have:=hs.mono (i:=k+1) (j:=m) (hLm k hk) (EO _);have:=hs.nn k (hLm k hk);omega
    cases hdo.congr hag with
    | @own args tys s y t e q sz fr1 fy rows1 rows2 sy inf z ho ha ht hx hq hy hp hu hi hsz hz hzs h0 hb1 hl2 hby=>
     have h63:rows1.length+rows2.length<=maxLen:=by
      have:(rows1.length+rows2.length)*1<=(rows1.length+rows2.length)*inf.bytes:=HL _ hb1;have:maxLen=2 ^ 63-1:=rfl;omega
     refine .inl (eO hrel ho ha ht (.inl ⟨q,rfl,hx,hq⟩) hy hp hu hi hsz hz hzs h0 hl2 h63 hby hn2 λv w' φ' hr1 hv=> ?_);obtain⟨hr2,hrep⟩:=hr1.frzN hMn hn2 hrel.sin hrel.inU;rw[hv];refine hnext φ' _ _ ?_;rw[hd,gH];have hown:(upd (ov V0 rs (λk=>L.getD k false=true)) ⟨some d,.val (fr1&&fy) (.sl (rows1++rows2)),[],n,some (q,none)⟩).own=λi=>if some q=some i then none else(ov V0 rs (λk=>L.getD k false=true)).own i:=by
      funext i;simp only[upd,E9];by_cases e2:i=q;·rw[E6 e2,E6 e2.symm]
      ·rw[E4 e2,E4 (Ne.symm e2)];exact cK _ _ _
     exact hr2.put hdl (sv:= .val (fr1&&fy) (.sl (rows1++rows2))) hrep trivial hown (λs sv' hsv=>by
      simp only[upd,E9]at hsv;split at hsv;·rename_i e;exact .inl ⟨e.symm,(E7 hsv).symm⟩
      ·rename_i e;exact .inr ⟨Ne.symm e,hsv⟩)
   | @lraw d n g q t x sx sv' fr cs u hw hd hdl ho hx hc hp hg hall hsv=>
    rw[aH hrel (hwant.trans hw),E6 Y];have hgs:(ov V0 rs (λk=>L.getD k false=true)).slot g=some (.eq u q):=by
     have hnw: ∀k,k<m->(rs k).d≠some g:=by
      intro k hk e;have hok':ops[k]? =some (ops[k]'(by omega)):=Eu (by omega);have h6:=hdst k _ hk hok';have:=EN.1 hall _ (EC (i:=k) (by rw[Fq];exact hok'));rw[h6,e]at this;simp at this
     rw[bl λk hk=>hnw k (hLm k hk)];rw[hWi j (by omega),bl λk hk=>hnw k (by omega)]at hg;exact hg
    have hev:ev K.P (W j) o=some (.val true (.raw u)):=(by simp only[ev,ho,hx,hc,hp,FJ,mkv]);rw[<-wx hag]at hev;obtain⟨v,hrun,hv,_⟩:=ww hrel hev;have hv:Rep w _ v (.raw u):=hv;have hvu:v=u:=(by cases hv;rfl);subst hvu;obtain⟨v2,hv2,hr2⟩:=hrel.slot g _ hgs;refine .inl ?_;unfold Oper.wp;rw[hrun];refine hnext φ _ _ ?_;rw[hd,gH];have hr2:φ q=v:=hr2;have hslv:bg w (Zf K (ov V0 rs (λk=>L.getD k false=true)) φ) φ v sv':=by
     rcases hsv with rfl|⟨⟨b,hb⟩,rfl⟩;·exact hr2.symm
     ·exact⟨b,by rw[hr2,hb];rfl,hb⟩
    exact hrel.put hdl (sv:=sv') hslv (by rcases hsv with rfl|⟨_,rfl⟩<;>exact(show(SV.eq v q).inU _ from hrel.sin g _ hgs)) (by funext i;exact cK _ _ _) (λs sv' hsv=>by
     simp only[upd,E9]at hsv;split at hsv;·rename_i e;exact .inl ⟨e.symm,(E7 hsv).symm⟩
     ·rename_i e;exact .inr ⟨Ne.symm e,hsv⟩)
   | @cbox d n g q q2 sv ad hw hd hdl hdo hall=>
    rw[aH hrel (hwant.trans hw),E6 Y];have hops: ∀k,k<m->∃o',ops[k]? =some o'/\o'.dst≠some g/\pd (W j) ops q2 o'.op=true/\vY o'.op=false:=by
     intro k hk;have hok':ops[k]? =some (ops[k]'(by omega)):=Eu (by omega);have:=EN.1 hall _ (EC (i:=k) (by rw[Fq];exact hok'));simp only[EL,bne_iff_ne,ne_eq,FZ]at this;exact⟨_,hok',this.1.1,this.1.2,this.2⟩
    have hnw: ∀k,k<m->(rs k).d≠some g:=by
     intro k hk e;obtain⟨o',h1,h2,_⟩:=hops k hk;exact h2 ((hdst k _ hk h1).trans e)
    have hnwr: ∀k,k<m->∀c,(rs k).wr≠some (q2,c):=by
     intro k hk c hwc;obtain⟨o',h1,_,h3,h4⟩:=hops k hk;have hr:=h5 k o' hk h1;generalize rs k=r at hr hwc;cases hr with
     |sto _ _ hdo=>cases hdo with
      | @mk t x y i off st c0 sy fp p inf ho hx=>
       cases hwc;rw[ho]at h3;cases x with
       |tmp s=>
        simp only[pd,EL]at h3;have hns: ∀i,i<m->(rs i).d≠some s:=λi hi e=>by
         have hoi:ops[i]? =some (ops[i]'(by omega)):=Eu (by omega);have:=EN.1 h3.2 _ (EC (i:=i) (by rw[Fq];exact hoi));simp only[bne_iff_ne,ne_eq]at this;exact this ((hdst i _ hi hoi).trans e)
        have e1:(W k).slot s=(W j).slot s:=(by rw[hWi k (by omega),hWi j (by omega),bl λi hi=>hns i (by omega),bl λi hi=>hns i (by omega)]);have hx:(W k).slot s=some (.optr q2 i off st):=hx;rw[<-e1,hx]at h3;simp at h3
       |_=>simp[pd]at h3
     |app _ _ _ hdo=>cases hdo with
      |own ho=>rw[ho]at h4;cases h4
      |nil ho=>rw[ho]at h4;cases h4
     |appf _ _ _ _ hdo=>cases hdo with
      |own ho=>rw[ho]at h4;cases h4
     |_=>cases hwc
    have hgj:(W j).slot g=V0.slot g:=(by rw[hWi j (by omega),bl λk hk=>hnw k (by omega)]);have hgs:(ov V0 rs (λk=>L.getD k false=true)).slot g=(W j).slot g:=(by rw[hgj,bl λk hk=>hnw k (hLm k hk)]);have hq2:q2<n0:=by
     cases hdo with
     |mk ho hx0 hax hbx hbo hbg hbq hspec=>
      rw[hgj]at hbg;exact hsc g _ hbg
     |agg ho hx0 hax hbx hps hbg hbq hspec=>
      rw[hgj]at hbg;exact hsc g _ hbg
    have hown2:(ov V0 rs (λk=>L.getD k false=true)).own q2=(W j).own q2:=by
     rw[hWi j (by omega),fe (λk hk hq=>by have:=hnn k (HH (hLm k hk));omega),fe (λk hk hq=>by have:=hnn k (by omega);omega),ir (λk c hk=>hnwr k (hLm k hk) c),ir (λk c hk=>hnwr k (by omega) c)]
    refine .inl ((hdo.congr hag hgs hown2).sound hrel (λq hq1 hq2 hq3=>hfresh q hq1 hq2 hq3) λv w' φ' hr1 hr2 hr3=> ?_);refine hnext φ' _ _ ?_;rw[hd];exact hr1.put hdl hr2 hr3 Y (λs sv' hsv=>by
     simp only[upd,E9]at hsv;split at hsv;·rename_i e;exact .inl ⟨e.symm,(E7 hsv).symm⟩
     ·rename_i e;exact .inr ⟨Ne.symm e,hsv⟩)
   | @lmap d n g q m' t x i si fi fr pi b l u hw hd hdl ho hx hm' hi hp hsem hg hall=>
    rw[aH hrel (hwant.trans hw),E6 Y];have hgs:(ov V0 rs (λk=>L.getD k false=true)).slot g=some (.eq u q):=by
     have hnw: ∀k,k<m->(rs k).d≠some g:=by
      intro k hk e;have hok':ops[k]? =some (ops[k]'(by omega)):=Eu (by omega);have h6:=hdst k _ hk hok';have:=EN.1 hall _ (EC (i:=k) (by rw[Fq];exact hok'));rw[h6,e]at this;simp at this
     rw[bl λk hk=>hnw k (hLm k hk)];rw[hWi j (by omega),bl λk hk=>hnw k (by omega)]at hg;exact hg
    have hag':=hag;unfold gV at hag';rw[ho]at hag';obtain⟨a1,a2⟩:=hag' x (by simp[Op.operands]);obtain⟨b1,_⟩:=hag' i (by simp[Op.operands]);have hx':=a1.trans hx;have hm2:=(a2 _ hx).trans hm';have hi':=b1.trans hi;obtain⟨hrx,_⟩:=ah hrel hx';have hrx:a.eval x=φ m':=hrx;have hri:=bK hrel hi' hp;have hrun:=hsem a w _ (by rw[hrx];exact hrel.own m' _ hm2) hri;obtain⟨v2,hv2,hr2⟩:=hrel.slot g _ hgs;refine .inl ?_;unfold Oper.wp;rw[hrun];refine hnext φ _ _ ?_;rw[hd,gH];exact hrel.put hdl (sv:= .ref q) hr2.symm (show(SV.eq u q).inU _ from hrel.sin g _ hgs) (by funext i;exact cK _ _ _) (λs sv' hsv=>by
     simp only[upd,E9]at hsv;split at hsv;·rename_i e;exact .inl ⟨e.symm,(E7 hsv).symm⟩
     ·rename_i e;exact .inr ⟨Ne.symm e,hsv⟩)
structure J (K:Ctx)(ops:Array Oper)(dr:Bool)(l:List Oper)(E:St)(R:St->Prop):Prop where
 out:match dr with
  |false=>TO K ops l E R
  |true=> ∃E':St,TD K ops l E.f E.nx E'.f E'.nx/\R E'
section
variable {K:Ctx}{ops:Array Oper}{dr:Bool}{o:Oper}{rest:List Oper}{sl:List (Nat×SV)}{ow:List (Nat×Option Own)}{nx:Nat}{R:St->Prop}{E E':St}{d:Nat}{sv:SV}
theorem J.nil (h:R E):J K ops dr [] E R:=by
 cases dr with
 |false=>exact⟨TO.nil h⟩
 |true=>exact⟨E,.nil,h⟩
theorem BS (sl:List (Nat×SV))(ow:List (Nat×Option Own))(nx m:Nat)(adds:List Own):(St.mk ((d,sv)::sl) (c6 nx adds ow) m).f=⟨λs=>if s=d then some sv else(St.mk sl ow nx).f.slot s,cN (St.mk sl ow nx).f.own nx adds⟩:=by
 refine EnvF.ext (λs=> ?_) (λq=> ?_)
 ·simp only[St.f,ak];by_cases e:d=s;·rw[E6 e,E6 e.symm]
  ·rw[E4 e,E4 (Ne.symm e)]
 ·exact tE ow adds nx q
theorem J.does {adds:List Own}(hg:wants ops (St.mk sl ow nx).f o=some true)(hd:o.dst=some d)(hlt:K.can d=true)(h:Does K (St.mk sl ow nx).f nx o sv adds)(k:J K ops dr rest ⟨(d,sv)::sl,c6 nx adds ow,nx+adds.length⟩ R):J K ops dr (o::rest) ⟨sl,ow,nx⟩ R:=by
 cases dr with
 |false=>exact⟨TO.does hg hd hlt h k.out⟩
 |true=>
  obtain⟨E',h1,h2⟩:=k.out;refine⟨E',.does hg hd hlt h (BS sl ow nx (nx+adds.length) adds) h1,h2⟩
theorem J.skip (hg:wants ops (St.mk sl ow nx).f o=some false)(hd:o.dst=some d)(hlt:K.can d=true)(k:J K ops dr rest ⟨(d,.tup [])::sl,ow,nx⟩ R):J K ops dr (o::rest) ⟨sl,ow,nx⟩ R:=by
 cases dr with
 |false=>exact⟨TO.skip hg hd hlt k.out⟩
 |true=>
  obtain⟨E',h1,h2⟩:=k.out;refine⟨E',.skip hg hd hlt ?_ h1,h2⟩;refine EnvF.ext (λs=> ?_) (λq=>rfl);simp only[St.f,ak];by_cases e:d=s;·rw[E6 e,E6 e.symm]
  ·rw[E4 e,E4 (Ne.symm e)]
theorem J.gb {b:Bool}{j dj:Nat}{want f:Bool}(hg:o.guard=some (j,want))(hj:(ops[j]?).bind (·.dst)=some dj)(hs:lk sl dj=some (.val f (.bool b)))
  (kt:b=true->J K ops dr (o::rest) ⟨(dj,.val f (.bool true))::sl,ow,nx⟩ R) (kf:b=false->J K ops dr (o::rest) ⟨(dj,.val f (.bool false))::sl,ow,nx⟩ R):J K ops dr (o::rest) ⟨sl,ow,nx⟩ R:=by
 have hf: ∀b',b=b'->(St.mk ((dj,.val f (.bool b'))::sl) ow nx).f=(St.mk sl ow nx).f:=by
  rintro b' rfl;refine EnvF.ext (λs=> ?_) (λq=>rfl);simp only[St.f,ak];by_cases e:dj=s;·subst e;rw[E6 Y,hs]
  ·rw[E4 e]
 have key: ∀b',b=b'->J K ops dr (o::rest) ⟨(dj,.val f (.bool b'))::sl,ow,nx⟩ R->J K ops dr (o::rest) ⟨sl,ow,nx⟩ R:=by
  intro b' e h;cases dr with
  |false=>
   refine⟨TO.sub (λa w hr=> ?_) h.out⟩;obtain⟨φ,hφ⟩:=hr;exact⟨φ,by rw[hf b' e];exact hφ⟩
  |true=>
   obtain⟨E',h1,h2⟩:=h.out;refine⟨E',?_,h2⟩;have h1':TD K ops (o::rest) (St.mk ((dj,.val f (.bool b'))::sl) ow nx).f nx E'.f E'.nx:=h1;rw[hf b' e]at h1';exact h1'
 cases b with
 |true=>exact key true rfl (kt rfl)
 |false=>exact key false rfl (kf rfl)
theorem J.g {p:Prop}[Decidable p]{j dj:Nat}{want f:Bool}(hg:o.guard=some (j,want))(hj:(ops[j]?).bind (·.dst)=some dj)(hs:lk sl dj=some (.val f (.bool (decide p))))
  (kt:p->J K ops dr (o::rest) ⟨(dj,.val f (.bool true))::sl,ow,nx⟩ R) (kf: ¬p->J K ops dr (o::rest) ⟨(dj,.val f (.bool false))::sl,ow,nx⟩ R):J K ops dr (o::rest) ⟨sl,ow,nx⟩ R:=
 J.gb hg hj hs (λh=>kt (FV h)) (λh=>kf (of_decide_eq_false h))
theorem J.e (hg:wants ops (St.mk sl ow nx).f o=some true)(hd:o.dst=some d)(hlt:K.can d=true)(he:ev K.P (St.mk sl ow nx).f o=some sv)(k:J K ops dr rest ⟨(d,sv)::sl,ow,nx⟩ R):J K ops dr (o::rest) ⟨sl,ow,nx⟩ R:=
 .does hg hd hlt (.ev he) k
theorem J.i {t:TypeId}{x i:Operand}{sx:SV}{fr fi:Bool}{rows:List (List PV)}{r:List PV}{k:IntKind}{m:Int}{e:TypeId}{inf:TypeInfo}(ho:o.op= .indexAddr t x i)(hg:wants ops (St.mk sl ow nx).f o=some true)(hd:o.dst=some d)(hlt:K.can d=true)
  (hx:(St.mk sl ow nx).f.get x=some sx) (hr:sx.ff=some (fr,.sl rows)) (hi:(St.mk sl ow nx).f.get i=some (.val fi (.int k m))) (hu:K.P.underlying t=some (.slice e)) (hinf:K.P.info? e=some inf)
  (h0:0<=m) (hrow:rows[m.toNat]? =some r) (hl:r.length=inf.size) (q:J K ops dr rest ⟨(d,.fptr fr r)::sl,ow,nx⟩ R):J K ops dr (o::rest) ⟨sl,ow,nx⟩ R:=
 .does hg hd hlt (.idxf ho hx hr hi hu hinf h0 hrow hl) q
theorem J.io {t:TypeId}{x i:Operand}{p:Nat}{fr fi:Bool}{rows:List (List PV)}{k:IntKind}{m:Int}{e' e:TypeId}{sz:Nat}{inf:TypeInfo}(ho:o.op= .indexAddr t x i)(hg:wants ops (St.mk sl ow nx).f o=some true)(hd:o.dst=some d)(hlt:K.can d=true)
  (hx:(St.mk sl ow nx).f.get x=some (.ref p)) (hp:(St.mk sl ow nx).f.own p=some (.sl e' sz fr rows)) (hi:(St.mk sl ow nx).f.get i=some (.val fi (.int k m))) (hu:K.P.underlying t=some (.slice e)) (hinf:K.P.info? e=some inf)
  (h0:0<=m) (hm:m.toNat<rows.length) (hl:inf.size=sz) (q:J K ops dr rest ⟨(d,.optr p m.toNat 0 sz)::sl,ow,nx⟩ R):J K ops dr (o::rest) ⟨sl,ow,nx⟩ R:=
 .does hg hd hlt (.idxo ho hx hp hi hu hinf h0 hm hl) q
theorem J.s {t:TypeId}{x:Operand}{lo hi:Option Operand}{sx:SV}{fr fl fh:Bool}{rows:List (List PV)}{e:TypeId}{inf:TypeInfo}{l h:Int}{kl kh:IntKind}(ho:o.op= .slice t x lo hi none)(hg:wants ops (St.mk sl ow nx).f o=some true)(hd:o.dst=some d)(hlt:K.can d=true)
  (hx:(St.mk sl ow nx).f.get x=some sx) (hr:sx.ff=some (fr,.sl rows)) (hu:K.P.underlying t=some (.slice e)) (hinf:K.P.info? e=some inf) (hlo:lo=none/\l=0∨∃y,lo=some y/\(St.mk sl ow nx).f.get y=some (.val fl (.int kl l)))
  (hhi:hi=none/\h=rows.length∨∃y,hi=some y/\(St.mk sl ow nx).f.get y=some (.val fh (.int kh h))) (h0:0<=l) (h1:l<=h) (h2:h<=rows.length) (h3: ∀r∈rows,r.length=inf.size)
  (q:J K ops dr rest ⟨(d,.val fr (.sl ((rows.take h.toNat).drop l.toNat)))::sl,ow,nx⟩ R):J K ops dr (o::rest) ⟨sl,ow,nx⟩ R:=
 .does hg hd hlt (.slf ho hx hr hu hinf hlo hhi h0 h1 h2 h3) q
theorem J.bx {t:TypeId}{x:Operand}{sx:SV}{fr:Bool}{p:PV}(ho:o.op= .box t x)(hg:wants ops (St.mk sl ow nx).f o=some true)(hd:o.dst=some d)(hlt:K.can d=true)(hx:(St.mk sl ow nx).f.get x=some sx)(hp:sx.ff=some (fr,p))
  (q:J K ops dr rest ⟨(d,.optr nx 0 0 0)::sl,(nx,some (.box fr p.cells))::ow,nx+1⟩ R):J K ops dr (o::rest) ⟨sl,ow,nx⟩ R:=
 .does hg hd hlt (.box ho hx hp) q
theorem J.bv {t e:TypeId}{len:Nat}{fr:Bool}{parts:Array (Nat×Operand)}{rows:List (List PV)}{inf:TypeInfo}{z:Value}(ho:o.op= .buildSlice t len parts)(hg:wants ops (St.mk sl ow nx).f o=some true)(hd:o.dst=some d)(hlt:K.can d=true)
  (hu:K.P.underlying t=some (.slice e)) (hinf:K.P.info? e=some inf) (hz:inf.zero=some z) (hzs:z.cells.size=inf.size) (hr:dw (St.mk sl ow nx).f inf.size 0 parts.toList=some (fr,rows)) (hl:rows.length=len) (hm:Nat.ble (len*inf.size) 16777216=true) (hm2:Nat.ble len 16777216=true)
  (q:J K ops dr rest ⟨(d,.val fr (.sl rows))::sl,ow,nx⟩ R):J K ops dr (o::rest) ⟨sl,ow,nx⟩ R:=
 .does hg hd hlt (.bsv ho hu hinf hz hzs hr hl (F3 hm) (F3 hm2)) q
theorem J.bo {t e:TypeId}{len:Nat}{fr:Bool}{parts:Array (Nat×Operand)}{rows:List (List PV)}{inf:TypeInfo}{z:Value}(ho:o.op= .buildSlice t len parts)(hg:wants ops (St.mk sl ow nx).f o=some true)(hd:o.dst=some d)(hlt:K.can d=true)
  (hu:K.P.underlying t=some (.slice e)) (hinf:K.P.info? e=some inf) (hz:inf.zero=some z) (hzs:z.cells.size=inf.size) (hr:dw (St.mk sl ow nx).f inf.size 0 parts.toList=some (fr,rows)) (hl:rows.length=len) (hm:Nat.ble (len*inf.size) 16777216=true) (hm2:Nat.ble len 16777216=true)
  (q:J K ops dr rest ⟨(d,.ref nx)::sl,(nx,some (.sl e inf.size fr rows))::ow,nx+1⟩ R):J K ops dr (o::rest) ⟨sl,ow,nx⟩ R:=
 .does hg hd hlt (.bso ho hu hinf hz hzs hr hl (F3 hm) (F3 hm2)) q
theorem J.c {x:Operand}{args:Array Operand}{tys:Array TypeId}{f:FuncId}{first caps ps:List PV}{al fx:Bool}{res:List RV}(ho:o.op= .call { callee:= .value x,args:=args,argTypes:=tys })(hg:wants ops (St.mk sl ow nx).f o=some true)(hd:o.dst=some d)(hlt:K.can d=true)
  (hx:(St.mk sl ow nx).f.get x=some (.val fx (.fn (.func f) first caps))) (hspec:Spec K.P f al (first++ps++caps) res) (ha:cz (St.mk sl ow nx).f al args.toList=some ps)
  (q:J K ops dr rest ⟨(d,RV.one (!al) nx res)::sl,c6 nx (RV.owns (!al) res) ow,nx+(RV.owns (!al) res).length⟩ R):J K ops dr (o::rest) ⟨sl,ow,nx⟩ R:=
 .does hg hd hlt (.call ho hx ha hspec) q
theorem J.sub (h: ∀a w,Rel K E a w->Rel K E' a w)(k:J K ops false rest E' R):J K ops false rest E R:=⟨TO.sub h k.out⟩
theorem J.a {args:Array Operand}{tys:Array TypeId}{s y:Operand}{t e:TypeId}{q sz:Nat}{fr fy:Bool}{rows rows2:List (List PV)}{sy:SV}{inf:TypeInfo}{z:Value}
  (ho:o.op= .call { callee:= .builtin .append,args:=args,argTypes:=tys }) (ha:args.toList=[s,y]) (ht:tys.toList=[t,t]) (hg:wants ops (St.mk sl ow nx).f o=some true) (hd:o.dst=some d) (hlt:K.can d=true)
  (hs:(St.mk sl ow nx).f.get s=some (.ref q)) (hq:(St.mk sl ow nx).f.own q=some (.sl e sz fr rows)) (hy:(St.mk sl ow nx).f.get y=some sy) (hp:(St.mk sl ow nx).f.pvf sy=some (fy,.sl rows2))
  (hu:K.P.underlying t=some (.slice e)) (hi:K.P.info? e=some inf) (hsz:inf.size=sz) (hz:inf.zero=some z) (hzs:z.cells.size=sz) (h0:Nat.blt 0 sz=true) (hb1:Nat.ble 1 inf.bytes=true)
  (hl2: ∀r∈rows2,r.length=sz) (hby:(rows.length+rows2.length)*inf.bytes<=140737488355328)
  (k:J K ops false rest ⟨(d,.ref nx)::sl,(nx,some (.sl e sz (fr&&fy) (rows++rows2)))::(q,none)::ow,nx+1⟩ R):J K ops false (o::rest) ⟨sl,ow,nx⟩ R:=
 ⟨TO.a ho ha ht hg hd hlt hs hq hy hp hu hi hsz hz hzs (by simpa[Gc]using h0) hl2 hby (F3 hb1) k.out⟩
theorem J.an {args:Array Operand}{tys:Array TypeId}{s y:Operand}{t e:TypeId}{fy:Bool}{rows2:List (List PV)}{sy:SV}{inf:TypeInfo}{z:Value}
  (ho:o.op= .call { callee:= .builtin .append,args:=args,argTypes:=tys }) (ha:args.toList=[s,y]) (ht:tys.toList=[t,t]) (hg:wants ops (St.mk sl ow nx).f o=some true) (hd:o.dst=some d) (hlt:K.can d=true)
  (hs:(St.mk sl ow nx).f.get s=some .nilsl) (hy:(St.mk sl ow nx).f.get y=some sy) (hp:(St.mk sl ow nx).f.pvf sy=some (fy,.sl rows2))
  (hu:K.P.underlying t=some (.slice e)) (hi:K.P.info? e=some inf) (hz:inf.zero=some z) (hzs:z.cells.size=inf.size) (h0:Nat.blt 0 inf.size=true) (hb1:Nat.ble 1 inf.bytes=true)
  (hl2: ∀r∈rows2,r.length=inf.size) (hby:rows2.length*inf.bytes<=140737488355328)
  (k:J K ops false rest ⟨(d,.ref nx)::sl,(nx,some (.sl e inf.size fy rows2))::ow,nx+1⟩ R):J K ops false (o::rest) ⟨sl,ow,nx⟩ R:=
 ⟨TO.an ho ha ht hg hd hlt hs hy hp hu hi hz hzs (by simpa[Gc]using h0) hl2 hby (F3 hb1) k.out⟩
theorem J.w {t:TypeId}{x y:Operand}{q i off st:Nat}{c c':Own}{sy:SV}{fp:Bool}{p:PV}{inf:TypeInfo}
  (ho:o.op= .store t x y) (hg:wants ops (St.mk sl ow nx).f o=some true) (hd:o.dst=none) (hx:(St.mk sl ow nx).f.get x=some (.optr q i off st)) (hq:(St.mk sl ow nx).f.own q=some c) (hy:(St.mk sl ow nx).f.get y=some sy) (hp:sy.ff=some (fp,p))
  (hi:K.P.info? t=some inf) (hs:p.cells.length=inf.size) (hc:c.put i off st fp p.cells=some c') (k:J K ops false rest ⟨sl,(q,some c')::ow,nx⟩ R):J K ops false (o::rest) ⟨sl,ow,nx⟩ R:=
 ⟨TO.w ho hg hd hx hq hy hp hi hs hc k.out⟩
variable {Q:Exit->St->Prop}{id:Nat}
theorem T.r (h:J K ops false ops.toList E (Q .normal)):T K (.region id ops false) E Q:=T.region h.out
theorem CZ {q:Nat}{sv:SV}(h:nr q (some sv)=true)(hsc:sv.inU (λ_=>True)):sv.inU (· ≠q):=by
 cases sv with
 |ref o=>exact(by simpa[nr]using h:o≠q)
 |optr o i off st=>exact(by simpa[nr]using h:o≠q)
 |fref f o=>exact(by simpa[nr]using h:o≠q)
 |eq f o=>exact(by simpa[nr]using h:o≠q)
 |tupB ag l=>
  intro s hs;have h2:=EN.1 (show(l.all _)=true from h) s hs;have h3:=hsc s hs;cases s with
  |ref o=>exact(by simpa using h2:o≠q)
  |optr o i off st=>exact(by simpa using h2:o≠q)
  |fref f o=>exact(by simpa using h2:o≠q)
  |eq f o=>exact(by simpa using h2:o≠q)
  |tupB ag l=>exact h3
  |_=>trivial
 |_=>trivial
theorem T.rdw (m:Nat)(hmix:K.P.follows .mixedOrders=true)(hok:okW ops m=true)(hm:Nat.ble m ops.size=true)(h:J K ops true (ops.toList.take m) E (λE'=>chk E.nx E.f E'.f ops m=true/\J K ops false (ops.toList.drop m) E' (Q .normal))):T K (.region id ops true) E Q:=by
 refine⟨λa w hr=> ?_⟩;obtain⟨φ,hφ⟩:=hr;obtain⟨E',hTD,hchk,hJ⟩:=h.out;have hm':=F3 hm;have hlen:(ops.toList.take m).length=m:=(by simp;omega);obtain⟨rs,W,h0,h1,h2,h3,h4,h5⟩:=hTD.recs;rw[hlen]at h1 h3 h4;have hokd:=Bn hok;have h5': ∀(i:Nat) o,i<m->ops[i]? =some o->RO K ops (W i) o (rs i):=λi o hi ho=>h5 i o (by rw[Fk,E6 hi];simpa using ho);have hdst: ∀(i:Nat) o,i<m->ops[i]? =some o->o.dst=(rs i).d:=by
  intro i o hi ho;have hr:=h5' i o hi ho;generalize rs i=r at hr⊢;cases hr with
  |does _ hd _ _=>exact hd
  |skip _ hd _=>exact hd
  |sto _ hd _=>exact hd
  |app _ hd _ _=>exact hd
  |appf _ hd _ _ _=>exact hd
  |lraw _ hd _ _ _ _ _ _ _ _=>exact hd
  |cbox _ hd _ _ _=>exact hd
  |lmap _ hd _ _ _ _ _ _ _ _ _=>exact hd
 have hone: ∀i j s,i<m->j<m->(rs i).d=some s->(rs j).d=some s->i=j:=by
  intro i j s hi hj e e2;by_cases hij:i=j;·exact hij
  ·have hoi:ops[i]? =some (ops[i]'(by omega)):=Eu (by omega);have hoj:ops[j]? =some (ops[j]'(by omega)):=Eu (by omega);exact EX ((hdst j _ hj hoj).trans e2) ((hokd.free j _ hoj hj i _ hi hoi hij).1 s ((hdst i _ hi hoi).trans e))
 have hslot: ∀i,i<=m->∀s,((W i).slot s=E.f.slot s/\∀k,k<i->(rs k).d≠some s)∨∃k,k<i/\(rs k).d=some s/\(W i).slot s=some (rs k).sv:=by
  intro i
  induction i with
  |zero=>intro _ s;exact .inl ⟨by rw[h0],λk hk=>EX hk (FK _)⟩
  |succ i ih=>
   intro hi s;rw[(h4 i (by omega)).1];simp only[upd];by_cases e:(rs i).d=some s;·exact .inr ⟨i,Fd i,e,by rw[E6 e]⟩
   ·rw[E4 e];rcases ih (by omega) s with ⟨h6,h7⟩|⟨k,hk,h6,h7⟩
    ·exact .inl ⟨h6,λk hk=>by
      by_cases e2:k=i;·subst e2;exact e
      ·exact h7 k (by omega)⟩
    ·exact .inr ⟨k,by omega,h6,h7⟩
 have htwo: ∀i,i<=m->∀s,(W i).slot s=E.f.slot s∨(W i).slot s=E'.f.slot s:=by
  intro i hi s;rcases hslot i hi s with ⟨h6,_⟩|⟨k,hk,h6,h7⟩;·exact .inl h6
  ·refine .inr ?_;rcases hslot m (EO _) s with ⟨_,h9⟩|⟨k',hk',h9,h10⟩;·exact EX h6 (h9 k (by omega))
   ·rw[<-h1,h10,h7,hone k k' s (by omega) hk' h6 h9]
 have hscope: ∀i,i<=m->∀s sv,(W i).slot s=some sv->sv.inU (λ_=>True):=by
  intro i
  induction i with
  |zero=>intro _ s sv h;rw[h0]at h;exact SV.in_mono (hφ.sin s sv h) λ_ _=>trivial
  |succ i ih=>
   intro hi s sv h;have hoi:ops[i]? =some (ops[i]'(by omega)):=Eu (by omega);have hr:=h5' i _ (by omega) hoi;have hprev:=ih (by omega);rw[(h4 i (by omega)).1]at h;generalize rs i=r at hr h;cases hr with
   | @does d n sv' ad hw hd hdl hdo=>
    simp only[upd,E9]at h;split at h
    ·obtain rfl:=E7 h;exact SV.in_mono (hdo.in_ hprev) λ_ _=>trivial
    ·exact hprev s sv h
   | @skip d n hw hd hdl=>
    simp only[upd,E9]at h;split at h
    ·obtain rfl:=E7 h;intro s hs;cases hs
    ·exact hprev s sv h
   | @sto n q c hw hd hdo=>
    simp[upd]at h;exact hprev s sv h
   | @app d n src c hw hd hdl hdo=>
    simp only[upd,E9]at h;split at h;·obtain rfl:=E7 h;trivial
    ·exact hprev s sv h
   | @appf d n q sz e fr rows hw hd hdl hMn hdo=>
    simp only[upd,E9]at h;split at h;·obtain rfl:=E7 h;trivial
    ·exact hprev s sv h
   | @lraw d n g q t x sx sv' fr cs u hw hd hdl ho hx hc hp hg hall hsv=>
    simp only[upd,E9]at h;split at h
    ·obtain rfl:=E7 h;rcases hsv with rfl|⟨_,rfl⟩<;>trivial
    ·exact hprev s sv h
   | @cbox d n g q q2 sv' ad hw hd hdl hdo hall=>
    simp only[upd,E9]at h;split at h
    ·obtain rfl:=E7 h;exact SV.in_mono (hdo.in_ (U:=λ_=>True)) λ_ _=>trivial
    ·exact hprev s sv h
   | @lmap d n g q m' t x i si fi fr pi b l u hw hd hdl ho hx hm' hi hp hsem hg hall=>
    simp only[upd,E9]at h;split at h;·obtain rfl:=E7 h;trivial
    ·exact hprev s sv h
 have htg: ∀k q c,k<m->(rs k).wr=some (q,c)->∃o l,ops[k]? =some o/\tgs E.f E'.f o.op=some l/\q∈l:=by
  intro k q c hk hw;have hok':ops[k]? =some (ops[k]'(by omega)):=Eu (by omega);have hr:=h5' k _ hk hok';have h6:=EN.1 hchk k (ES.2 hk);rw[hok']at h6;generalize rs k=r at hr hw;cases hr with
  |does _ _ _ _=>cases hw
  |skip _ _ _=>cases hw
  |lraw _ _ _ _ _ _ _ _ _ _=>cases hw
  |cbox _ _ _ _ _=>cases hw
  |lmap _ _ _ _ _ _ _ _ _ _ _=>cases hw
  |sto _ _ hdo=>
   cases hw;cases hdo with
   | @mk t x y i off st c sy fp p inf hop hx _ _ _ _ _ _=>
    cases x with
    |tmp tx=>
     have hx:(W k).slot tx=some (.optr q i off st):=hx;refine⟨_,_,hok',by rw[hop];rfl,?_⟩;rcases htwo k (by omega) tx with e|e;·rw[<-e,hx];exact Ex _ (.head _)
     ·rw[<-e,hx];exact Ey _ (.head _)
    |_=>simp[hop,tgs]at h6
  |app _ _ _ hdo=>
   cases hdo with
   |nil _ _ _ _ _ _ _ _ _ _ _ _ _ _=>cases hw
   | @own args tys s y t e q sz fr fy rows rows2 sy inf z hop ha ht hx=>
    cases hw;cases s with
    |tmp tx=>
     have hx:(W k).slot tx=some (.ref q):=hx;refine⟨_,_,hok',by rw[hop];simp only[tgs,ha];rfl,?_⟩;rcases htwo k (by omega) tx with e|e;·rw[<-e,hx];exact Ex _ (.head _)
     ·rw[<-e,hx];exact Ey _ (.head _)
    |const v=>
     simp only[EnvF.get,cSV]at hx;split at hx;·cases hx
     ·obtain⟨p,_,hx⟩:=Ej.1 hx;cases hx
    |func f=>simp[EnvF.get]at hx
    |global g=>simp[EnvF.get]at hx
  |appf _ _ _ _ hdo=>
   cases hdo with
   | @own args tys s y t e q sz fr fy rows rows2 sy inf z hop ha ht hx=>
    cases hw;cases s with
    |tmp tx=>
     have hx:(W k).slot tx=some (.ref q):=hx;refine⟨_,_,hok',by rw[hop];simp only[tgs,ha];rfl,?_⟩;rcases htwo k (by omega) tx with e|e;·rw[<-e,hx];exact Ex _ (.head _)
     ·rw[<-e,hx];exact Ey _ (.head _)
    |const v=>
     simp only[EnvF.get,cSV]at hx;split at hx;·cases hx
     ·obtain⟨p,_,hx⟩:=Ej.1 hx;cases hx
    |func f=>simp[EnvF.get]at hx
    |global g=>simp[EnvF.get]at hx
 have hck: ∀k q c,k<m->(rs k).wr=some (q,c)->∃l,D5 E.nx E.f E'.f ops m k l=true/\q∈l:=by
  intro k q c hk hw;obtain⟨o,l,ho,hl,hq⟩:=htg k q c hk hw;have h6:=EN.1 hchk k (ES.2 hk);simp only[ho,hl]at h6;exact⟨l,h6,hq⟩
 refine wp_region_any hmix ?_;have hw:RelW K E.f (· <E.nx) φ a { w with drawn:=w.drawn+1 }:=hφ.world ⟨rfl,rfl,rfl,EO _,λ_ _=>rfl⟩;refine BW hokd hm' h0 h1 h2 h3 h4 h5' ?_ ?_ hw.sin (λa' w' φ' hr'=> ?_) ops.size (Array.replicate ops.size false) φ a _ (by simp) ?_ ?_ ?_ ?_
 ·intro k j q c hk hj hjk hwr hq1 hq2;obtain⟨l,h6,hq⟩:=hck k q c hk hwr;have h7:=EN.1 h6 q hq;simp only[EL,Fs]at h7;have hmn: ∀i,i<=m->(rs 0).n<=(rs i).n:=by
   intro i
   induction i with
   |zero=>intro _;exact EO _
   |succ i ih=>intro hi;have:=(h4 i (by omega)).2;have:=ih (by omega);omega
  have hE:E.nx<=(rs j).n:=(by rw[<-h2];exact hmn j (by omega));rcases h7.1 with h8|h8
  ·have:q<E.nx:=(by simpa[Gc]using h8);omega
  ·have h9:=EN.1 h8 j (ES.2 hjk);have hoj:ops[j]? =some (ops[j]'(by omega)):=Eu (by omega);simp only[hoj,Fs]at h9;rcases h9 with h9|h9
   ·unfold fw at h9;rwa[E6 hjk]at h9
   ·exfalso;have hr:=h5' j _ hj hoj;have hdj:=hdst j _ hj hoj;rw[hdj]at h9;have hsj: ∀s,(rs j).d=some s->E'.f.slot s=some (rs j).sv:=λs hs=>by
     rcases hslot m (EO _) s with ⟨_,h10⟩|⟨k',hk',h10,h11⟩;·exact EX hs (h10 j hj)
     ·rw[<-h1,h11,hone k' j s hk' hj h10 hs]
    generalize rs j=r at hr h9 hsj hq1 hq2 hE;cases hr with
    |does _ _ _ hdo=>
     simp only[hsj _ rfl]at h9;rw[hdo.noAd hE h9]at hq2;dsimp only at hq1 hq2;simp at hq2;omega
    |skip _ _ _=>dsimp only at hq1 hq2;simp at hq2;omega
    |sto _ _ _=>dsimp only at hq1 hq2;simp at hq2;omega
    |app _ _ _ _=>
     simp only[hsj _ rfl]at h9;have h9:Nat.blt _ _=true:=h9;rw[Gc]at h9;dsimp only at hE;omega
    |appf _ _ _ _ _=>dsimp only at hq1 hq2;simp at hq2;omega
    |lraw _ _ _ _ _ _ _ _ _ _=>dsimp only at hq1 hq2;simp at hq2;omega
    |cbox _ _ _ hdo _=>
     simp only[hsj _ rfl]at h9;rw[hdo.noAd hE h9]at hq2;dsimp only at hq1 hq2;simp at hq2;omega
    |lmap _ _ _ _ _ _ _ _ _ _ _=>dsimp only at hq1 hq2;simp at hq2;omega
 ·intro k j hk hj hkj q c o hwr ho;obtain⟨l,h6,hq⟩:=hck k q c hk hwr;have h7:=EN.1 h6 q hq;simp only[EL]at h7;have h7:=EN.1 h7.2 j (ES.2 hj);simp only[Fs,beq_iff_eq,ho]at h7;rcases h7 with (h7|h7)|h7;·exact EX h7.symm hkj
  ·exact .inl h7
  ·refine .inr λz hz sv hsv=> ?_;have h8:=EN.1 h7 z (by simpa using hz);cases z with
   |tmp s=>
    simp only[EL]at h8;have hsv':(W j).slot s=some sv:=hsv;have hin:=hscope j (by omega) s sv hsv';rcases htwo j (by omega) s with e|e;·rw[e]at hsv';rw[hsv']at h8;exact CZ h8.1 hin
    ·rw[e]at hsv';rw[hsv']at h8;exact CZ h8.2 hin
   |const v=>
    simp only[EnvF.get,cSV]at hsv;split at hsv;·obtain rfl:=E7 hsv;trivial
    ·obtain⟨p,_,rfl⟩:=Ej.1 hsv;trivial
   |func f=>simp only[EnvF.get,E9]at hsv;subst hsv;trivial
   |global g=>simp[EnvF.get]at hsv
 ·have hto:=hJ.out.out a' w' (Dj K Q) ⟨φ',hr'⟩ λE2 a2 w2 hq hr2=>⟨rfl,E2,hq,hr2⟩;have e:=wpOps_eq_wpList (P:=K.P) (ops:=ops) (Q:=Dj K Q) (ops.toList.drop m) m (λj=>by simp);rw[show(ops.toList.drop m).length=ops.size-m by simp]at e;rw[e];exact hto
 ·intro k hk;simp[Array.getD]at hk
 ·intro k o hk;simp[Array.getD]at hk
 ·unfold rO;have:=Ez (λi=> !(Array.replicate ops.size false).getD i true) (List.range ops.size);simpa using this
 ·have e1:ov E.f rs (λk=>(Array.replicate ops.size false).getD k false=true)=E.f:=by
   refine(iq λk=> ?_).trans (yL (V0:=E.f) (rs:=rs));simp[Array.getD]
  have e2:(λq=>q<E.nx∨∃k,(Array.replicate ops.size false).getD k false=true/\(rs k).n<=q/\q<(rs k).n+(rs k).ad.length)=(· <E.nx):=by
   funext q;simp only[eq_iff_iff];constructor
   ·rintro(h|⟨k,hk,_⟩);·exact h
    ·simp[Array.getD]at hk
   ·exact .inl
  rw[e1,e2];exact hw
theorem T.rdm (m:Nat)(hmix:K.P.follows .mixedOrders=true)(hok:okD ops m=true)(hm:Nat.ble m ops.size=true)(h:J K ops true (ops.toList.take m) E (λE'=>J K ops false (ops.toList.drop m) E' (Q .normal))):T K (.region id ops true) E Q:=by
 have hok':okW ops m=true:=(by simp only[okD,EL]at hok;exact hok.1);refine T.rdw m hmix hok' hm ⟨?_⟩;obtain⟨E',h1,h2⟩:=h.out;exact⟨E',h1,Ay hok,h2⟩
theorem J.wd {t:TypeId}{x y:Operand}{q i off st:Nat}{c c':Own}{sy:SV}{fp:Bool}{p:PV}{inf:TypeInfo}
  (ho:o.op= .store t x y) (hg:wants ops (St.mk sl ow nx).f o=some true) (hd:o.dst=none) (hx:(St.mk sl ow nx).f.get x=some (.optr q i off st)) (hq:(St.mk sl ow nx).f.own q=some c) (hy:(St.mk sl ow nx).f.get y=some sy) (hp:sy.ff=some (fp,p))
  (hi:K.P.info? t=some inf) (hs:p.cells.length=inf.size) (hc:c.put i off st fp p.cells=some c') (k:J K ops true rest ⟨sl,(q,some c')::ow,nx⟩ R):J K ops true (o::rest) ⟨sl,ow,nx⟩ R:=by
 obtain⟨E',h1,h2⟩:=k.out;refine⟨E',TD.sto hg hd (.mk ho hx hq hy hp hi hs hc) ?_ h1,h2⟩;refine EnvF.ext (λs=>rfl) (λj=> ?_);simp only[St.f,ak];by_cases e:q=j;·rw[E6 e,E6 e.symm];rfl
 ·rw[E4 e,E4 (Ne.symm e)]
theorem T.rd (hmix:K.P.follows .mixedOrders=true)(hok:okD ops ops.size=true)(h:J K ops true ops.toList E (Q .normal)):T K (.region id ops true) E Q:=by
 refine T.rdm ops.size hmix hok (Nat.ble_eq_true_of_le (EO _)) ?_;rw[<-FL,Ep,FR];obtain⟨E',h1,h2⟩:=h.out;exact⟨E',h1,.nil h2⟩
theorem J.ad {args:Array Operand}{tys:Array TypeId}{s y:Operand}{t e:TypeId}{q sz:Nat}{fr fy:Bool}{rows rows2:List (List PV)}{sy:SV}{inf:TypeInfo}{z:Value}
  (ho:o.op= .call { callee:= .builtin .append,args:=args,argTypes:=tys }) (ha:args.toList=[s,y]) (ht:tys.toList=[t,t]) (hg:wants ops (St.mk sl ow nx).f o=some true) (hd:o.dst=some d) (hlt:K.can d=true)
  (hs:(St.mk sl ow nx).f.get s=some (.ref q)) (hq:(St.mk sl ow nx).f.own q=some (.sl e sz fr rows)) (hy:(St.mk sl ow nx).f.get y=some sy) (hp:(St.mk sl ow nx).f.pvf sy=some (fy,.sl rows2))
  (hu:K.P.underlying t=some (.slice e)) (hi:K.P.info? e=some inf) (hsz:inf.size=sz) (hz:inf.zero=some z) (hzs:z.cells.size=sz) (h0:Nat.blt 0 sz=true) (hb1:Nat.ble 1 inf.bytes=true) (hqn:Nat.blt q nx=true)
  (hl2: ∀r∈rows2,r.length=sz) (hby:(rows.length+rows2.length)*inf.bytes<=140737488355328)
  (k:J K ops true rest ⟨(d,.ref nx)::sl,(nx,some (.sl e sz (fr&&fy) (rows++rows2)))::(q,none)::ow,nx+1⟩ R):J K ops true (o::rest) ⟨sl,ow,nx⟩ R:=by
 obtain⟨E',h1,h2⟩:=k.out;refine⟨E',?_,h2⟩;have hro:RO K ops (St.mk sl ow nx).f o ⟨some d,.ref nx,[.sl e sz (fr&&fy) (rows++rows2)],nx,some (q,none)⟩:= .app (src:=some q) hg hd hlt (.own ho ha ht hs hq hy hp hu hi hsz hz hzs (by simpa[Gc]using h0) (F3 hb1) hl2 hby);refine TD.step (r:=⟨some d,.ref nx,[.sl e sz (fr&&fy) (rows++rows2)],nx,some (q,none)⟩) hro ?_;have e1:upd (St.mk sl ow nx).f ⟨some d,.ref nx,[.sl e sz (fr&&fy) (rows++rows2)],nx,some (q,none)⟩=(St.mk ((d,.ref nx)::sl) ((nx,some (.sl e sz (fr&&fy) (rows++rows2)))::(q,none)::ow) (nx+1)).f:=by
  have hqn:q<nx:=(by simpa[Gc]using hqn);refine EnvF.ext (λs=> ?_) (λi=> ?_);·simp only[upd,St.f,ak,E9]
  ·simp only[upd,St.f,ak,cN,FY];by_cases e1:i=q;·subst e1;rw[E6 Y,E4 (by omega),E6 Y];rfl
   ·rw[E4 e1];by_cases e2:i=nx;·subst e2;rw[E6 (by omega),E6 Y];simp
    ·rw[E4 (by omega),E4 (Ne.symm e2),E4 (Ne.symm e1)]
 rw[e1];exact h1
theorem J.lr (g:Nat){t:TypeId}{x:Operand}{sx:SV}{fr:Bool}{cs:List PV}{u:Value}{q:Nat}(ho:o.op= .load t x)(hg:wants ops (St.mk sl ow nx).f o=some true)(hd:o.dst=some d)(hlt:K.can d=true)(hx:(St.mk sl ow nx).f.get x=some sx)
  (hc:(St.mk sl ow nx).f.cellsAt sx=some (fr,cs)) (hp:iR K.P t cs=some (.raw u)) (hgs:lk sl g=some (.eq u q)) (hall:(ops.toList.all λo'=>o'.dst != some g)=true) (k:J K ops true rest ⟨(d,.ref q)::sl,ow,nx⟩ R):J K ops true (o::rest) ⟨sl,ow,nx⟩ R:=by
 obtain⟨E',h1,h2⟩:=k.out;refine⟨E',?_,h2⟩;refine TD.step (r:=⟨some d,.ref q,[],nx,none⟩) (.lraw hg hd hlt ho hx hc hp hgs hall (.inl Y)) ?_;have e1:upd (St.mk sl ow nx).f ⟨some d,.ref q,[],nx,none⟩=(St.mk ((d,.ref q)::sl) ow nx).f:=by
  refine EnvF.ext (λs=> ?_) (λi=> ?_);·simp only[upd,St.f,ak,E9]
  ·simp only[upd,St.f];exact cK _ _ _
 rw[e1];exact h1
theorem J.lp (g:Nat){t:TypeId}{x:Operand}{sx:SV}{fr:Bool}{cs:List PV}{b:Nat}{q:Nat}(hgs:lk sl g=some (.eq (.pointer (some ⟨b,0,none⟩)) q))(k:J K ops true rest ⟨(d,.optr q 0 0 0)::sl,ow,nx⟩ R)(ho:o.op= .load t x:=by exact Y)(hg:wants ops (St.mk sl ow nx).f o=some true:=by exact Y)(hd:o.dst=some d:=by exact Y)(hlt:K.can d=true:=by exact Y)(hx:(St.mk sl ow nx).f.get x=some sx:=by exact Y)
  (hc:(St.mk sl ow nx).f.cellsAt sx=some (fr,cs):=by exact Y) (hp:iR K.P t cs=some (.raw (.pointer (some ⟨b,0,none⟩))):=by exact Y) (hall:(ops.toList.all λo'=>o'.dst != some g)=true:=by exact Y):J K ops true (o::rest) ⟨sl,ow,nx⟩ R:=by
 obtain⟨E',h1,h2⟩:=k.out;refine⟨E',?_,h2⟩;refine TD.step (r:=⟨some d,.optr q 0 0 0,[],nx,none⟩) (.lraw hg hd hlt ho hx hc hp hgs hall (.inr ⟨⟨b,rfl⟩,rfl⟩)) ?_;have e1:upd (St.mk sl ow nx).f ⟨some d,.optr q 0 0 0,[],nx,none⟩=(St.mk ((d,.optr q 0 0 0)::sl) ow nx).f:=by
  refine EnvF.ext (λs=> ?_) (λi=> ?_);·simp only[upd,St.f,ak,E9]
  ·simp only[upd,St.f];exact cK _ _ _
 rw[e1];exact h1
theorem J.cb (g:Nat){y x:Operand}{args:Array Operand}{tys:Array TypeId}{f:FuncId}{fx frb fr:Bool}{res:List RV}{row:List PV}{e:TypeId}{sz q q2:Nat}{rows:List (List PV)}{u:Value}(hspec:Spec K.P f false [.ptr [.sl rows]] res)
  (k:J K ops true rest ⟨(d,RV.one true nx res)::sl,c6 nx (RV.owns true res) ow,nx+(RV.owns true res).length⟩ R)
  (ho:o.op= .call { callee:= .value y,args:=args,argTypes:=tys }:=by exact Y) (hg:wants ops (St.mk sl ow nx).f o=some true:=by exact Y) (hd:o.dst=some d:=by exact Y) (hlt:K.can d=true:=by exact Y) (hy:(St.mk sl ow nx).f.get y=some (.val fx (.fn (.func f) [] [])):=by exact Y) (ha:args.toList=[x]:=by exact Y)
  (hx:(St.mk sl ow nx).f.get x=some (.optr q 0 0 0):=by exact Y) (hq:(St.mk sl ow nx).f.own q=some (.box frb (.raw u::row)):=by exact Y) (hgs:lk sl g=some (.eq u q2):=by exact Y) (hq2:(St.mk sl ow nx).f.own q2=some (.sl e sz fr rows):=by exact Y)
  (hall:(ops.toList.all λo'=>o'.dst != some g&&pd (St.mk sl ow nx).f ops q2 o'.op&& !vY o'.op)=true:=by exact Y):J K ops true (o::rest) ⟨sl,ow,nx⟩ R:=by
 obtain⟨E',h1,h2⟩:=k.out;refine⟨E',?_,h2⟩;refine TD.step (r:=⟨some d,RV.one true nx res,RV.owns true res,nx,none⟩) (.cbox hg hd hlt (.mk ho hy ha hx hq hgs hq2 hspec) hall) ?_;have e1:upd (St.mk sl ow nx).f ⟨some d,RV.one true nx res,RV.owns true res,nx,none⟩=(St.mk ((d,RV.one true nx res)::sl) (c6 nx (RV.owns true res) ow) (nx+(RV.owns true res).length)).f:=by
  rw[BS sl ow nx (nx+(RV.owns true res).length) (RV.owns true res)];refine EnvF.ext (λs=> ?_) (λi=>rfl);simp only[upd,E9];by_cases e:d=s;·rw[E6 e,E6 e.symm]
  ·rw[E4 e,E4 (Ne.symm e)]
 rw[e1];exact h1
end
theorem ox {P:Program}{t e:TypeId}(hu:P.underlying t=some (.slice e))(b:Option Addr)(n c:Nat)(w:World):(Op.equal t (.slice b n c) (.slice none 0 0)).run P w= .ok b.isNone w:=by
 have key: ∀d,(Op.equalIn (d+1) t (.slice b n c) (.slice none 0 0)).run P w= .ok b.isNone w:=by
  intro d;rw[Op.equalIn];simp only[EM,run_underlying hu,EG];cases b<;>rfl
 exact key 9999
section
variable {K:Ctx}{ops:Array Oper}{dr:Bool}{o:Oper}{rest:List Oper}{sl:List (Nat×SV)}{ow:List (Nat×Option Own)}{nx:Nat}{R:St->Prop}{E E':St}{d:Nat}{sv:SV}
theorem J.nc {t yt e:TypeId}{x:Operand}{sx:SV}{fr:Bool}{rows:List (List PV)}(ho:o.op= .binOp .eql t x (.const (.slice none 0 0)) yt)(hg:wants ops (St.mk sl ow nx).f o=some true)(hd:o.dst=some d)(hlt:K.can d=true)
  (hx:(St.mk sl ow nx).f.get x=some sx) (hr:sx.ff=some (fr,.sl rows)) (hu:K.P.underlying t=some (.slice e)) (q: ∀b:Bool,(b=true->rows=[])->J K ops false rest ⟨(d,.val true (.bool b))::sl,ow,nx⟩ R):J K ops false (o::rest) ⟨sl,ow,nx⟩ R:=by
 refine⟨⟨λa w Q hrel hk=> ?_⟩⟩;obtain⟨φ,hφ⟩:=hrel;have hrep:=bK hφ hx hr;generalize hv:a.eval x=v at hrep;obtain⟨b,n,c,hvs,hb⟩: ∃b n c,v= .slice b n c/\(b.isNone=true->rows=[]):=by
  cases hrep with
  |nilsl=>exact⟨none,0,0,rfl,λ_=>rfl⟩
  |slE=>exact⟨_,_,_,rfl,λh=>by cases h⟩
  |sl b off cap sz rows xs _ _ _ _ _ _ _ _=>exact⟨_,_,_,rfl,λh=>by cases h⟩
 have hrun:(execOp a.eval o).run K.P w= .ok (.value (.bool b.isNone)) w:=by
  have hg:(eqGuard .eql t x (.const (.slice none 0 0)) (.slice b n c) (.slice none 0 0)).run K.P w= .ok () w:=by
   unfold eqGuard;split<;>rfl
  have he:a.eval (.const (.slice none 0 0))= .slice none 0 0:=rfl;simp only[execOp,ho,hv,he,hvs,EM,hg,EG];simp only[binOp,EM,ox hu,EG,Ev]
 unfold wpList;rw[E6 (aH hφ hg)];refine .inl ?_;unfold Oper.wp;rw[hrun];refine(q b.isNone hb).out.out _ w Q ⟨φ,?_⟩ hk;rw[hd];exact hφ.put hlt (sv:= .val true (.bool b.isNone)) (Rep.bool _) trivial Y slot_put
end
theorem aA.frz {w:World}{Z:Nat->Prop}{v:Value}{e:TypeId}{sz:Nat}{rows:List (List PV)}(h:aA w (λ_=>Z) v (.sl e sz true rows))(hz: ∀g,VB v g->Z g):Rep w Z v (.sl rows):=by
 obtain⟨xs,hwn,hl,h1,h2⟩:=h;have hcell:=λg hg=>hwn.cells (g:=g) hg;have hlt:=hwn.lt;rcases hwn.2 with ⟨rfl,hn⟩|⟨g,cap,cur,rfl,_,hgc,hnc,hcm,_⟩
 ·have:rows=[]:=EQ hn;subst this;exact .nilsl
 ·refine .sl g 0 cap sz rows xs (hz g (.inl Y)) (hlt g Y).2 h1 h2 (λj v hj=> ?_) hnc hcm hl;have:=hcell g Y j v hj;rw[bE]at this;exact ce hgc this
def RV.frz:RV->RV
 | .own _ _ rows=> .val (.sl rows)
 |r=>r
theorem ux: ∀(res:List RV) (vs:List Value),RV.vals (res.map RV.frz) vs=[]
 | [],vs=>by cases vs<;>rfl
 |r::res,[]=>by cases r<;>rfl
 |r::res,v::vs=>by cases r<;>exact ux res vs
theorem BV {w:World}{Z1 Z2:Nat->Prop}(hsub: ∀b,Z1 b->Z2 b){rs:List Value}{res:List RV}(h:L2 (RV1 w Z1) rs res)(hf: ∀v g,v∈RV.vals res rs->VB v g->Z2 g):L2 (RV1 w Z2) rs (res.map RV.frz):=by
 induction h with
 |nil=>exact .nil
 | @cons v r vs rs h1 _ ih=>
  cases r with
  |val p=>exact .cons (Rep.mono (λb hb _=>⟨hsub b hb,rfl⟩) h1) (ih λv g hv=>hf v g hv)
  |own e sz rows=>
   refine .cons ?_ (ih λv g hv=>hf v g (.tail _ hv));have h2:aA w (λ_=>Z1) v (.sl e sz true rows):=h1;have h3:aA w (λ_=>Z2) v (.sl e sz true rows):=h2.mono (λ_ _=>rfl) λ_ b hb _=>⟨hsub b hb,rfl⟩;exact h3.frz λg hg=>hf v g (.head _) hg
theorem Spec.frz {P:Program}{f:FuncId}{al:Bool}{args:List PV}{res:List RV}(h:Spec P f al args res):Spec P f al args (res.map RV.frz):=by
 refine⟨h.isFn,λw Z vs hvs=>(h.out w Z vs hvs).mono λe w' ⟨rs,he,hb,hret⟩=>⟨rs,he,hb,?_⟩⟩;have hno:=ux res;refine⟨?_,(λv g hv=>by rw[hno]at hv;cases hv),(λi j v v' g hi=>by rw[hno]at hi;simp at hi)⟩;refine BV (λb hb=>⟨hb.1,λv hv=> ?_⟩) hret.each λv g hv hg=>⟨.inr (hret.fresh v g hv hg),λv hv=> ?_⟩;·rw[hno]at hv;cases hv
 ·rw[hno]at hv;cases hv
end Go.Proofs.YtopcjbahjjhdmaaGreat
