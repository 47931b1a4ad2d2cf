/- The texts CoreK, CoreL, CoreM, CoreN, CoreO, CoreP, CoreR of the workplace, joined. -/
import Derived.Test.YtlcobmehnaeebaaGreatB1
import Derived.Laws.StructEq
namespace Go.Proofs.YtlcobmehnaeebaaGreat
open Go Go.RowKit
set_option linter.unusedVariables false
set_option linter.unusedSimpArgs false
def Agree (V V':EnvF)(o:Oper):Prop:= ∀x,x∈o.op.operands→V'.get x=V.get x∧∀sv,V.get x=some sv→sv.inU (fun q=>V'.own q=V.own q)
section
variable {V V':EnvF}{P:Program}
theorem parts_congr: ∀(l:List (Nat×Operand)),(∀x∈l,V'.get x.2=V.get x.2)→partsPV V' l=partsPV V l
 | [],_=>rfl
 |(i,x)::l,h=>by
  simp only[partsPV]
  rw[h (i,x) (.head _),parts_congr l fun y hy=>h y (.tail _ hy)]
theorem fzList_congr: ∀(l:List Operand),(∀x∈l,V'.get x=V.get x)→fzList V' l=fzList V l
 | [],_=>rfl
 |x::l,h=>by
  simp only[fzList]
  rw[h x (.head _),fzList_congr l fun y hy=>h y (.tail _ hy)]
theorem rows_congr (sz:Nat): ∀(l:List (Nat×Operand)) (k:Nat),(∀x∈l,V'.get x.2=V.get x.2)→rowsPV V' sz k l=rowsPV V sz k l
 | [],_,_=>rfl
 |(i,x)::l,k,h=>by
  simp only[rowsPV]
  rw[h (i,x) (.head _),rows_congr sz l (k+1) fun y hy=>h y (.tail _ hy)]
theorem pv_congr {sv:SV}(h:sv.inU (fun q=>V'.own q=V.own q)):V'.pv sv=V.pv sv:=by
 cases sv<;>simp only[EnvF.pv]
 rename_i o
 have:V'.own o=V.own o:=h
 rw[this]
theorem args_congr (al:Bool): ∀(l:List Operand),(∀x∈l,V'.get x=V.get x∧∀sv,V.get x=some sv→sv.inU (fun q=>V'.own q=V.own q))→argPVs V' al l=argPVs V al l
 | [],_=>rfl
 |x::l,h=>by
  simp only[argPVs]
  have:argPV V' al x=argPV V al x:=by
   obtain⟨h1,h2⟩:=h x (.head _)
   unfold argPV
   rw[h1]
   cases hg:V.get x with
   |none=>rfl
   |some sv=>simp only[];rw[pv_congr (h2 sv hg)]
  rw[this,args_congr al l fun y hy=>h y (.tail _ hy)]
theorem cells_congr {sv:SV}(h:sv.inU (fun q=>V'.own q=V.own q)):V'.cellsAt sv=V.cellsAt sv:=by
 cases sv with
 |optr o i off st=>
  have:V'.own o=V.own o:=h
  simp only[EnvF.cellsAt]
  rw[this]
 |val fr p=>cases p<;>rfl
 |fix u p=>cases p<;>rfl
 |_=>rfl
theorem build_congr {t:TypeId}{l:List (Nat×Operand)}(h: ∀x∈l,V'.get x.2=V.get x.2):buildPV P V' t l=buildPV P V t l:=by
 unfold buildPV
 rw[parts_congr l h]
theorem ev_congr {o:Oper}(h:Agree V V' o):ev P V' o=ev P V o:=by
 unfold Agree at h
 unfold ev
 split
 ·rename_i x ho;rw[ho]at h;exact(h x (by simp[Op.operands])).1
 ·rename_i x ho;rw[ho]at h;exact(h x (by simp[Op.operands])).1
 ·rename_i c a b ho;rw[ho]at h
  rw[(h c (by simp[Op.operands])).1,(h a (by simp[Op.operands])).1,(h b (by simp[Op.operands])).1]
 ·rename_i op t x y yt ho;rw[ho]at h
  rw[(h x (by simp[Op.operands])).1,(h y (by simp[Op.operands])).1]
 ·rename_i op t x ho;rw[ho]at h
  rw[(h x (by simp[Op.operands])).1]
 ·rename_i t x ho;rw[ho]at h
  obtain⟨h1,h2⟩:=h x (by simp[Op.operands])
  rw[h1]
  cases hg:V.get x with
  |none=>rfl
  |some sv=>simp only[];rw[cells_congr (h2 sv hg)]
 ·rename_i s x f ho;rw[ho]at h
  rw[(h x (by simp[Op.operands])).1]
 ·rename_i s x f ho;rw[ho]at h
  rw[(h x (by simp[Op.operands])).1]
 ·rename_i x i ho;rw[ho]at h
  rw[(h x (by simp[Op.operands])).1]
 ·rename_i t parts ho;rw[ho]at h
  rw[build_congr fun x hx=>(h x.2 (by simp only[Op.operands,List.mem_toArray,List.mem_map];exact⟨x,hx,rfl⟩)).1]
 ·rename_i fn first caps ho;rw[ho]at h
  rw[fzList_congr first.toList fun x hx=>(h x (by simp only[Op.operands,Array.mem_append];exact .inl (by simpa using hx))).1,
   fzList_congr caps.toList fun x hx=>(h x (by simp only[Op.operands,Array.mem_append];exact .inr (by simpa using hx))).1]
 ·rename_i src dst x ho;rw[ho]at h
  rw[(h x (by simp[Op.operands])).1]
 ·rename_i args tys ho;rw[ho]at h
  split
  ·rename_i x t ha ht
   obtain⟨h1,h2⟩:=h x (by simp only[Op.operands,Call.operands,Array.mem_append];exact .inr (by rw[←Array.mem_toList_iff,ha];simp))
   rw[h1]
   cases hg:V.get x with
   |none=>rfl
   |some sv=>simp only[];rw[pv_congr (h2 sv hg)]
  ·rfl
 ·rename_i args tys ho;rw[ho]at h
  split
  ·rename_i x y ha
   rw[(h x (by simp only[Op.operands,Call.operands,Array.mem_append];exact .inr (by rw[←Array.mem_toList_iff,ha];simp))).1,
    (h y (by simp only[Op.operands,Call.operands,Array.mem_append];exact .inr (by rw[←Array.mem_toList_iff,ha];simp))).1]
  ·rfl
 ·rename_i args tys ho;rw[ho]at h
  split
  ·rename_i x y ha
   rw[(h x (by simp only[Op.operands,Call.operands,Array.mem_append];exact .inr (by rw[←Array.mem_toList_iff,ha];simp))).1,
    (h y (by simp only[Op.operands,Call.operands,Array.mem_append];exact .inr (by rw[←Array.mem_toList_iff,ha];simp))).1]
  ·rfl
 ·rename_i x ho;rw[ho]at h
  rw[(h x (by simp[Op.operands])).1]
 ·rfl
theorem Does.congr {K:Ctx}{n:Nat}{o:Oper}{sv:SV}{adds:List Own}(h:Agree V V' o)(hd:Does K V n o sv adds):Does K V' n o sv adds:=by
 have hag:=h
 unfold Agree at h
 cases hd with
 |ev he=>exact .ev (by rw[ev_congr hag];exact he)
 |idxf ho hx hr hi hu hinf h0 hrow hl=>
  rw[ho]at h
  exact .idxf ho ((h _ (by simp[Op.operands])).1.trans hx) hr ((h _ (by simp[Op.operands])).1.trans hi) hu hinf h0 hrow hl
 |idxo ho hx hq hi hu hinf h0 hm hs=>
  rw[ho]at h
  obtain⟨h1,h2⟩:=h _ (by simp[Op.operands];exact .inl rfl)
  have h3:V'.own _=V.own _:=h2 _ hx
  exact .idxo ho (h1.trans hx) (h3.trans hq) ((h _ (by simp[Op.operands])).1.trans hi) hu hinf h0 hm hs
 | @slf t x lo hi sx fr fl fh rows e inf l hh kl kh ho hx hr hu hinf hlo hhi h0 h1 h2 h3=>
  rw[ho]at h
  refine .slf (fl:=fl) (fh:=fh) (kl:=kl) (kh:=kh) ho ((h x (by simp[Op.operands])).1.trans hx) hr hu hinf ?_ ?_ h0 h1 h2 h3
  ·rcases hlo with hlo|⟨y,hy,hg⟩
   ·exact .inl hlo
   ·exact .inr ⟨y,hy,(h y (by simp[Op.operands,hy])).1.trans hg⟩
  ·rcases hhi with hhi|⟨y,hy,hg⟩
   ·exact .inl hhi
   ·exact .inr ⟨y,hy,(h y (by simp[Op.operands,hy])).1.trans hg⟩
 |box ho hx hp=>
  rw[ho]at h
  exact .box ho ((h _ (by simp[Op.operands])).1.trans hx) hp
 |bsv ho hu hi hz hzs hr hl hm hm2=>
  rw[ho]at h
  exact .bsv ho hu hi hz hzs (by rw[rows_congr _ _ _ fun x hx=>(h x.2 (by simp only[Op.operands,List.mem_toArray,List.mem_map];exact⟨x,hx,rfl⟩)).1];exact hr) hl hm hm2
 |bso ho hu hi hz hzs hr hl hm hm2=>
  rw[ho]at h
  exact .bso ho hu hi hz hzs (by rw[rows_congr _ _ _ fun x hx=>(h x.2 (by simp only[Op.operands,List.mem_toArray,List.mem_map];exact⟨x,hx,rfl⟩)).1];exact hr) hl hm hm2
 |alloc ho hi hz hps=>exact .alloc ho hi hz hps
 |genO hin hl hrun=>exact .genO hin ((fzList_congr _ fun x hx=>(h x (hin x hx)).1).trans hl) hrun
 |gen hin hl hrun=>exact .gen hin ((fzList_congr _ fun x hx=>(h x (hin x hx)).1).trans hl) hrun
 |call ho hx ha hspec=>
  rw[ho]at h
  exact .call ho ((h _ (by simp[Op.operands,Call.operands])).1.trans hx) (by rw[args_congr _ _ fun x hx=>h x (by simp only[Op.operands,Call.operands,Array.mem_append];exact .inr (by simpa using hx))];exact ha) hspec
theorem mkv_in {U:Nat→Prop}(fr:Bool)(p:PV):(mkv fr p).inU U:=by cases p<;>trivial
theorem get_in {U:Nat→Prop}(hU: ∀s sv,V.slot s=some sv→sv.inU U){x:Operand}{sv:SV}(h:V.get x=some sv):sv.inU U:=by
 cases x with
 |tmp t=>exact hU t sv h
 |const v=>
  simp only[EnvF.get,cSV]at h
  split at h
  ·obtain rfl:=Option.some.inj h;trivial
  ·obtain⟨p,_,rfl⟩:=Option.map_eq_some_iff.1 h;trivial
 |global g=>simp[EnvF.get]at h
 |func f=>simp only[EnvF.get,Option.some.injEq]at h;subst h;trivial
theorem ev_in {U:Nat→Prop}(hU: ∀s sv,V.slot s=some sv→sv.inU U){o:Oper}{sv:SV}(he:ev P V o=some sv):sv.inU U:=by
 unfold ev at he
 split at he
 ·exact get_in hU he
 ·exact get_in hU he
 ·split at he
  ·exact get_in hU he
  ·exact get_in hU he
  ·cases he
 ·split at he
  ·obtain⟨r,_,rfl⟩:=Option.map_eq_some_iff.1 he;trivial
  ·cases he
 ·split at he
  ·obtain⟨r,_,rfl⟩:=Option.map_eq_some_iff.1 he;trivial
  ·cases he
 ·split at he
  ·split at he
   ·obtain⟨r,_,rfl⟩:=Option.map_eq_some_iff.1 he;exact mkv_in _ _
   ·cases he
  ·cases he
 ·split at he
  ·split at he
   ·split at he
    ·split at he
     ·obtain rfl:=Option.some.inj he;trivial
     ·cases he
    ·split at he
     ·obtain rfl:=Option.some.inj he;trivial
     ·cases he
    ·split at he
     ·obtain rfl:=Option.some.inj he;trivial
     ·cases he
    ·rename_i hg
     obtain rfl:=Option.some.inj he
     have:=get_in hU hg
     exact this
    ·cases he
   ·cases he
  ·cases he
 ·split at he
  ·split at he
   ·split at he
    ·split at he
     ·split at he
      ·obtain rfl:=Option.some.inj he;trivial
      ·cases he
     ·obtain⟨r,_,rfl⟩:=Option.map_eq_some_iff.1 he;exact mkv_in _ _
    ·cases he
   ·cases he
  ·cases he
 ·split at he
  ·rename_i hg
   have:=get_in hU hg
   have h1:=this sv (List.mem_of_getElem? he)
   cases sv with
   |tup l=>exact h1.elim
   |_=>exact h1
  ·cases he
 ·obtain⟨r,_,rfl⟩:=Option.map_eq_some_iff.1 he;trivial
 ·split at he
  ·obtain rfl:=Option.some.inj he;trivial
  ·cases he
 ·split at he
  ·split at he
   ·obtain rfl:=Option.some.inj he;trivial
   ·cases he
  ·cases he
 ·split at he
  ·split at he
   ·split at he
    ·split at he
     ·obtain rfl:=Option.some.inj he;trivial
     ·cases he
    ·split at he
     ·obtain rfl:=Option.some.inj he;trivial
     ·cases he
    ·cases he
   ·cases he
  ·cases he
 ·split at he
  ·split at he
   ·obtain rfl:=Option.some.inj he;trivial
   ·cases he
  ·cases he
 ·split at he
  ·split at he
   ·obtain rfl:=Option.some.inj he;trivial
   ·cases he
  ·cases he
 ·split at he
  ·rename_i hx
   obtain rfl:=Option.some.inj he
   exact get_in hU hx
  ·obtain rfl:=Option.some.inj he;trivial
  ·cases he
 ·cases he
end
end Go.Proofs.YtlcobmehnaeebaaGreat
namespace Go.Proofs.YtlcobmehnaeebaaGreat
open Go Go.RowKit
set_option linter.unusedVariables false
set_option linter.unusedSimpArgs false
theorem svs_in {U:Nat→Prop}(fr:Bool): ∀(rs:List RV) (n:Nat),(∀i,i<(RV.owns fr rs).length→U (n+i))→∀s∈RV.svs fr n rs,s.in1 U
 | [],n,_,s,hs=>by simp[RV.svs]at hs
 | .val p::rs,n,h,s,hs=>by
  simp only[RV.svs,List.mem_cons]at hs
  rcases hs with rfl|hs
  ·cases p<;>trivial
  ·exact svs_in fr rs n h s hs
 | .own e sz rows::rs,n,h,s,hs=>by
  simp only[RV.svs,List.mem_cons]at hs
  rcases hs with rfl|hs
  ·exact h 0 (by simp[RV.owns])
  ·exact svs_in fr rs (n+1) (fun i hi=>by rw[Nat.add_assoc,Nat.add_comm 1 i];exact h (i+1) (by simpa[RV.owns]using hi)) s hs
theorem Does.in_ {K:Ctx}{V:EnvF}{U:Nat→Prop}{n:Nat}{o:Oper}{sv:SV}{adds:List Own}(h:Does K V n o sv adds)(hU: ∀s sv,V.slot s=some sv→sv.inU U):sv.inU (addU U n adds):=by
 cases h with
 |ev he=>exact SV.in_mono (ev_in hU he) fun _ hq=> .inl hq
 |idxf=>trivial
 |idxo ho hx=>exact .inl (get_in hU hx)
 |slf=>trivial
 |box=>exact .inr ⟨Nat.le_refl _,by simp⟩
 |bsv=>trivial
 |gen=>trivial
 |genO=>exact .inr ⟨Nat.le_refl _,by simp⟩
 |alloc=>exact .inr ⟨Nat.le_refl _,by simp⟩
 |bso=>exact .inr ⟨Nat.le_refl _,by simp⟩
 | @call x args tys f first caps ps al fx res ho hx ha hspec=>
  have h1:=svs_in (U:=addU U n (RV.owns (!al) res)) (!al) res n fun i hi=> .inr ⟨by omega,by omega⟩
  unfold RV.one
  generalize RV.svs (!al) n res=l at h1
  match l,h1 with
  | [],h1=>exact fun s hs=>h1 s hs
  | [s],h1=>
   have:=h1 s (.head _)
   cases s with
   |tup l=>exact this.elim
   |_=>exact this
  |s::s'::l,h1=>exact fun t ht=>h1 t ht
inductive DoesW (K:Ctx)(V:EnvF)(o:Oper)(q:Nat)(c':Own):Prop
 |mk {t:TypeId} {x y:Operand} {i off st:Nat} {c:Own} {sy:SV} {fp:Bool} {p:PV} {inf:TypeInfo}:o.op= .store t x y→V.get x=some (.optr q i off st)→V.own q=some c→V.get y=some sy→sy.ff=some (fp,p)→
   K.P.info? t=some inf→p.cells.length=inf.size→c.put i off st fp p.cells=some c'→DoesW K V o q c'
theorem DoesW.congr {K:Ctx}{V V':EnvF}{o:Oper}{q:Nat}{c':Own}(h:Agree V V' o)(hd:DoesW K V o q c'):DoesW K V' o q c':=by
 cases hd with
 |mk ho hx hq hy hp hi hs hc=>
  unfold Agree at h
  rw[ho]at h
  obtain⟨h1,h2⟩:=h _ (by simp[Op.operands];exact .inl rfl)
  exact .mk ho (h1.trans hx) ((h2 _ hx).trans hq) ((h _ (by simp[Op.operands])).1.trans hy) hp hi hs hc
inductive DoesA (K:Ctx)(V:EnvF)(o:Oper):Option Nat→Own→Prop
 |own {args:Array Operand} {tys:Array TypeId} {s y:Operand} {t e:TypeId} {q sz:Nat} {fr fy:Bool} {rows rows2:List (List PV)} {sy:SV} {inf:TypeInfo} {z:Value}:o.op= .call { callee:= .builtin .append,args:=args,argTypes:=tys }→args.toList=[s,y]→tys.toList=[t,t]→
   V.get s=some (.ref q)→V.own q=some (.sl e sz fr rows)→V.get y=some sy→V.pvf sy=some (fy,.sl rows2)→K.P.underlying t=some (.slice e)→K.P.info? e=some inf→inf.size=sz→inf.zero=some z→z.cells.size=sz→0<sz→1≤inf.bytes→(∀r∈rows2,r.length=sz)→
   (rows.length+rows2.length)*inf.bytes≤140737488355328→DoesA K V o (some q) (.sl e sz (fr&&fy) (rows++rows2))
 |nil {args:Array Operand} {tys:Array TypeId} {s y:Operand} {t e:TypeId} {fy:Bool} {rows2:List (List PV)} {sy:SV} {inf:TypeInfo} {z:Value}:o.op= .call { callee:= .builtin .append,args:=args,argTypes:=tys }→args.toList=[s,y]→tys.toList=[t,t]→
   V.get s=some .nilsl→V.get y=some sy→V.pvf sy=some (fy,.sl rows2)→K.P.underlying t=some (.slice e)→K.P.info? e=some inf→inf.zero=some z→z.cells.size=inf.size→0<inf.size→1≤inf.bytes→(∀r∈rows2,r.length=inf.size)→
   rows2.length*inf.bytes≤140737488355328→DoesA K V o none (.sl e inf.size fy rows2)
theorem pvf_congr {V V':EnvF}{sv:SV}(h:sv.inU (fun q=>V'.own q=V.own q)):V'.pvf sv=V.pvf sv:=by
 cases sv with
 |ref o=>simp only[SV.inU,SV.in1]at h;simp only[EnvF.pvf,h]
 |_=>rfl
theorem DoesA.congr {K:Ctx}{V V':EnvF}{o:Oper}{src:Option Nat}{c:Own}(h:Agree V V' o)(hd:DoesA K V o src c):DoesA K V' o src c:=by
 cases hd with
 | @own args tys s y t e q sz fr fy rows rows2 sy inf z ho ha ht hs hq hy hp=>
  unfold Agree at h
  rw[ho]at h
  have hx: ∀x,x∈[s,y]→V'.get x=V.get x∧∀sv,V.get x=some sv→sv.inU (fun q=>V'.own q=V.own q):=fun x hx=>h x (by rw[←ha]at hx;simpa[Op.operands,Call.operands]using hx)
  exact .own ho ha ht ((hx s (by simp)).1.trans hs) (((hx s (by simp)).2 _ hs).trans hq) ((hx y (by simp)).1.trans hy) ((pvf_congr ((hx y (by simp)).2 _ hy)).trans hp) ‹_› ‹_› ‹_› ‹_› ‹_› ‹_› ‹_› ‹_› ‹_›
 | @nil args tys s y t e fy rows2 sy inf z ho ha ht hs hy hp=>
  unfold Agree at h
  rw[ho]at h
  have hx: ∀x,x∈[s,y]→V'.get x=V.get x∧∀sv,V.get x=some sv→sv.inU (fun q=>V'.own q=V.own q):=fun x hx=>h x (by rw[←ha]at hx;simpa[Op.operands,Call.operands]using hx)
  exact .nil ho ha ht ((hx s (by simp)).1.trans hs) ((hx y (by simp)).1.trans hy) ((pvf_congr ((hx y (by simp)).2 _ hy)).trans hp) ‹_› ‹_› ‹_› ‹_› ‹_› ‹_› ‹_› ‹_›
structure RecD where
 d:Option Nat
 sv:SV
 ad:List Own
 n:Nat
 wr:Option (Nat×Option Own)
def upd (V:EnvF)(r:RecD):EnvF:=⟨fun s=>if r.d=some s then some r.sv else V.slot s,fun o=>match r.wr with
 |some (q,c)=>if o=q then c else addOwn V.own r.n r.ad o
 |none=>addOwn V.own r.n r.ad o⟩
inductive RO (K:Ctx)(ops:Array Oper)(V:EnvF)(o:Oper):RecD→Prop
 |does {d n:Nat} {sv:SV} {ad:List Own}:wants ops V o=some true→o.dst=some d→K.can d=true→Does K V n o sv ad→RO K ops V o ⟨some d,sv,ad,n,none⟩
 |skip {d n:Nat}:wants ops V o=some false→o.dst=some d→K.can d=true→RO K ops V o ⟨some d,.tup [],[],n,none⟩
 |sto {n q:Nat} {c:Own}:wants ops V o=some true→o.dst=none→DoesW K V o q c→RO K ops V o ⟨none,.nilsl,[],n,some (q,some c)⟩
 |app {d n:Nat} {src:Option Nat} {c:Own}:wants ops V o=some true→o.dst=some d→K.can d=true→DoesA K V o src c→RO K ops V o ⟨some d,.ref n,[c],n,src.map fun q=>(q,none)⟩
 |appf {d n q sz:Nat} {e:TypeId} {fr:Bool} {rows:List (List PV)}:wants ops V o=some true→o.dst=some d→K.can d=true→(∀b,¬K.M b)→DoesA K V o (some q) (.sl e sz fr rows)→RO K ops V o ⟨some d,.val fr (.sl rows),[],n,some (q,none)⟩
 |lraw {d n g q:Nat} {t:TypeId} {x:Operand} {sx:SV} {fr:Bool} {cs:List PV} {u:Value}:wants ops V o=some true→o.dst=some d→K.can d=true→o.op= .load t x→V.get x=some sx→V.cellsAt sx=some (fr,cs)→loadPV K.P t cs=some (.raw u)→V.slot g=some (.eq u q)→
   (ops.toList.all fun o'=>o'.dst != some g)=true→RO K ops V o ⟨some d,.ref q,[],n,none⟩
 |lmap {d n g q m:Nat} {t:TypeId} {x i:Operand} {si:SV} {fi fr:Bool} {pi:PV} {b:Option (List Nat×Nat)} {l:List (Value×PV)} {u:Value}:wants ops V o=some true→o.dst=some d→K.can d=true→o.op= .lookup t x i false→V.get x=some (.ref m)→V.own m=some (.mp fr b l)→V.get i=some si→si.ff=some (fi,pi)→
   (∀(A:Act) (w:World) (Z:Bool→Nat→Prop),OwnRel w Z (A.eval x) (.mp fr b l)→Rep w (Z fi) (A.eval i) pi→(execOp A.eval o).run K.P w= .ok (.value u) w)→V.slot g=some (.eq u q)→
   (ops.toList.all fun o'=>o'.dst != some g)=true→RO K ops V o ⟨some d,.ref q,[],n,none⟩
theorem RelW.frzN {K:Ctx}{S:Nat→Option SV}{own:Nat→Option Own}{src:Option Nat}{n:Nat}{e:TypeId}{sz:Nat}{fr:Bool}{rows:List (List PV)}{U:Nat→Prop}{φ:Nat→Value}{a:Act}{w:World}(hM: ∀b,¬K.M b)(hn: ¬U n)(hS: ∀s sv,S s=some sv→sv.inU U)(hown: ∀o c,own o=some c→U o)
  (h:RelW K ⟨S,swapOwn own src n (.sl e sz fr rows)⟩ (fun i=>U i∨i=n) φ a w):RelW K ⟨S,fun i=>if src=some i then none else own i⟩ U φ a w∧Rep w (Zf K ⟨S,fun i=>if src=some i then none else own i⟩ φ fr) (φ n) (.sl rows):=by
 have hown': ∀q c,(if src=some q then none else own q)=some c→q≠n∧swapOwn own src n (.sl e sz fr rows) q=some c:=by
  intro q c hq
  have hne:q≠n:=fun e=>by
   subst e
   split at hq
   ·cases hq
   ·exact hn (hown _ _ hq)
  exact⟨hne,by simp only[swapOwn];rw[if_neg hne];exact hq⟩
 have hnn:swapOwn own src n (.sl e sz fr rows) n=some (.sl e sz fr rows):=by simp[swapOwn]
 have hZ: ∀f b,Zf K ⟨S,swapOwn own src n (.sl e sz fr rows)⟩ φ f b→Zf K ⟨S,fun i=>if src=some i then none else own i⟩ φ f b:=
  fun f b hb=>⟨⟨hb.1.1,fun q c hq=>hb.1.2 q c (hown' q c hq).2⟩,hb.2⟩
 refine⟨⟨h.df,h.sz,h.old,h.kept,?_,?_,?_,?_,?_,hS⟩,?_⟩
 ·intro q c hq
  exact(h.own q c (hown' q c hq).2).mono (fun _ _=>rfl) fun f b hb _=>⟨hZ f b hb,rfl⟩
 ·intro q c g hq
  exact h.mine q c g (hown' q c hq).2
 ·intro q c hq
  refine hown q c ?_
  simp only at hq
  split at hq
  ·cases hq
  ·exact hq
 ·intro q q' c c' g hq hq'
  exact h.dis q q' c c' g (hown' q c hq).2 (hown' q' c' hq').2
 ·intro t sv hsv
  obtain⟨v,hv,hr⟩:=h.slot t sv hsv
  exact⟨v,hv,hr.mono (h.sin t sv hsv) (fun f b hb _=>⟨hZ f b hb,rfl⟩) (fun _ _=>rfl)⟩
 ·obtain⟨xs,hwn,hl,h1,h2⟩:=h.own n _ hnn
  have hl':L2 (Rep w (Zf K ⟨S,fun i=>if src=some i then none else own i⟩ φ fr)) xs rows.flatten:=Rep.monoL (fun b hb _=>⟨hZ fr b hb,rfl⟩) hl
  have hcell:=fun g hg=>hwn.cells (g:=g) hg
  have hlt:=hwn.lt
  rcases hwn.2 with ⟨hv0,hn0⟩|⟨g,cap,cur,hv0,_,hgc,hnc,hcm,_⟩
  ·rw[hv0]
   have:rows=[]:=List.eq_nil_of_length_eq_zero hn0
   subst this
   exact .nilsl
  ·have hvb:VB (φ n) g:=by rw[hv0];exact .inl rfl
   have hm:=h.mine n _ g hnn hvb
   have hge:K.w0.heap.size≤g:=hm.resolve_right (hM g)
   rw[hv0]at hcell hlt⊢
   refine .sl g 0 cap sz rows xs ⟨⟨.inl hge,fun q c hq hvq=> ?_⟩,fun _=>K.hF _ hge⟩ (hlt g rfl).2 h1 h2 (fun j v hj=> ?_) hnc hcm hl'
   ·obtain⟨hne,hq'⟩:=hown' q c hq
    exact hne (h.dis q n c _ g hq' hnn hvq hvb)
   ·have:=hcell g rfl j v hj
    rw[add_addr]at this
    exact soft_row hgc this
inductive TD (K:Ctx)(ops:Array Oper):List Oper→EnvF→Nat→EnvF→Nat→Prop
 |nil {V:EnvF} {n:Nat}:TD K ops [] V n V n
 |step {o:Oper} {rest:List Oper} {V V':EnvF} {n':Nat} {r:RecD}:RO K ops V o r→TD K ops rest (upd V r) (r.n+r.ad.length) V' n'→TD K ops (o::rest) V r.n V' n'
theorem EnvF.ext {V V':EnvF}(h1: ∀s,V.slot s=V'.slot s)(h2: ∀o,V.own o=V'.own o):V=V':=by
 cases V;cases V'
 simp only[EnvF.mk.injEq]
 exact⟨funext h1,funext h2⟩
theorem addOwn_nil (f:Nat→Option Own)(n o:Nat):addOwn f n [] o=f o:=by
 simp only[addOwn,List.length_nil,Nat.add_zero]
 rw[if_neg (by omega)]
theorem TD.does {K:Ctx}{ops:Array Oper}{o:Oper}{rest:List Oper}{V V1 V':EnvF}{n n' d:Nat}{sv:SV}{adds:List Own}(hw:wants ops V o=some true)(hd:o.dst=some d)(hlt:K.can d=true)(h:Does K V n o sv adds)
  (e:V1=⟨fun s=>if s=d then some sv else V.slot s,addOwn V.own n adds⟩) (k:TD K ops rest V1 (n+adds.length) V' n'):TD K ops (o::rest) V n V' n':=by
 have e2:V1=upd V ⟨some d,sv,adds,n,none⟩:=by
  rw[e]
  refine EnvF.ext (fun s=> ?_) (fun o=>rfl)
  simp only[upd,Option.some.injEq]
  by_cases h:s=d
  ·rw[if_pos h,if_pos h.symm]
  ·rw[if_neg h,if_neg (Ne.symm h)]
 rw[e2]at k
 exact .step (.does hw hd hlt h) k
theorem TD.skip {K:Ctx}{ops:Array Oper}{o:Oper}{rest:List Oper}{V V1 V':EnvF}{n n' d:Nat}(hw:wants ops V o=some false)(hd:o.dst=some d)(hlt:K.can d=true)
  (e:V1=⟨fun s=>if s=d then some (.tup [])else V.slot s,V.own⟩) (k:TD K ops rest V1 n V' n'):TD K ops (o::rest) V n V' n':=by
 have e2:V1=upd V ⟨some d,.tup [],[],n,none⟩:=by
  rw[e]
  refine EnvF.ext (fun s=> ?_) (fun o=>(addOwn_nil _ _ _).symm)
  simp only[upd,Option.some.injEq]
  by_cases h:s=d
  ·rw[if_pos h,if_pos h.symm]
  ·rw[if_neg h,if_neg (Ne.symm h)]
 rw[e2]at k
 exact .step (.skip hw hd hlt) k
theorem TD.sto {K:Ctx}{ops:Array Oper}{o:Oper}{rest:List Oper}{V V1 V':EnvF}{n n' q:Nat}{c:Own}(hw:wants ops V o=some true)(hd:o.dst=none)(h:DoesW K V o q c)
  (e:V1=⟨V.slot,fun j=>if j=q then some c else V.own j⟩) (k:TD K ops rest V1 n V' n'):TD K ops (o::rest) V n V' n':=by
 have e2:V1=upd V ⟨none,.nilsl,[],n,some (q,some c)⟩:=by
  rw[e]
  refine EnvF.ext (fun s=> ?_) (fun o=> ?_)
  ·simp[upd]
  ·simp only[upd]
   by_cases h:o=q
   ·rw[if_pos h,if_pos h]
   ·rw[if_neg h,if_neg h];exact(addOwn_nil _ _ _).symm
 rw[e2]at k
 exact .step (.sto hw hd h) k
theorem TD.recs {K:Ctx}{ops:Array Oper}{l:List Oper}{V V':EnvF}{n n':Nat}(h:TD K ops l V n V' n'):
  ∃(rs:Nat→RecD) (W:Nat→EnvF),W 0=V∧W l.length=V'∧(rs 0).n=n∧(rs l.length).n=n'∧(∀i,i<l.length→W (i+1)=upd (W i) (rs i)∧(rs (i+1)).n=(rs i).n+(rs i).ad.length)∧
   ∀(i:Nat) o,l[i]? =some o→RO K ops (W i) o (rs i):=by
 induction h with
 | @nil V n=>exact⟨fun _=>⟨none,.nilsl,[],n,none⟩,fun _=>V,rfl,rfl,rfl,rfl,by simp,by simp⟩
 | @step o rest V V' n' r hr _ ih=>
  obtain⟨rs,W,h0,h1,h2,h3,h4,h5⟩:=ih
  refine⟨fun i=>match i with|0=>r|i+1=>rs i,fun i=>match i with|0=>V|i+1=>W i,rfl,h1,rfl,h3,?_,?_⟩
  ·intro i hi
   cases i with
   |zero=>exact⟨h0,h2⟩
   |succ i=>exact h4 i (by simpa using hi)
  ·intro i o' ho
   cases i with
   |zero=>simp at ho;subst ho;exact hr
   |succ i=>exact h5 i o' (by simpa using ho)
open Classical in
noncomputable def lastW (rs:Nat→RecD)(S:Nat→Prop)(o:Nat):Option (Option Own):=
 if h: ∃c,∃k,S k∧(rs k).wr=some (o,c)∧∀k' c',S k'→(rs k').wr=some (o,c')→k'≤k then some h.choose else none
open Classical in
noncomputable def ov (V0:EnvF)(rs:Nat→RecD)(S:Nat→Prop):EnvF:=
 ⟨fun s=>if h: ∃k,S k∧(rs k).d=some s then some (rs h.choose).sv else V0.slot s,
 fun o=>match lastW rs S o with
  |some c=>c
  |none=>if h: ∃k,S k∧(rs k).n≤o∧o<(rs k).n+(rs k).ad.length then(rs h.choose).ad[o-(rs h.choose).n]? else V0.own o⟩
section
variable {V0:EnvF}{rs:Nat→RecD}{m:Nat}
theorem lastW_max {S:Nat→Prop}{o k:Nat}{c:Option Own}(hk:S k)(hw:(rs k).wr=some (o,c))(hm: ∀k' c',S k'→(rs k').wr=some (o,c')→k'≤k):lastW rs S o=some c:=by
 have h: ∃c,∃k,S k∧(rs k).wr=some (o,c)∧∀k' c',S k'→(rs k').wr=some (o,c')→k'≤k:=⟨c,k,hk,hw,hm⟩
 unfold lastW
 rw[dif_pos h]
 obtain⟨k2,h1,h2,h3⟩:=h.choose_spec
 have:k2=k:=Nat.le_antisymm (hm k2 _ h1 h2) (h3 k c hk hw)
 subst this
 rw[hw]at h2
 simp only[Option.some.injEq,Prod.mk.injEq,true_and]at h2
 rw[←h2]
theorem lastW_no {S:Nat→Prop}{o:Nat}(h: ∀k c,S k→(rs k).wr≠some (o,c)):lastW rs S o=none:=by
 unfold lastW
 rw[dif_neg]
 rintro⟨c,k,hk,hw,_⟩
 exact h k c hk hw
theorem lastW_ex {S:Nat→Prop}(hS: ∀k,S k→k<m){o k0:Nat}{c0:Option Own}(hk:S k0)(hw:(rs k0).wr=some (o,c0)): ∃k c,S k∧(rs k).wr=some (o,c)∧∀k' c',S k'→(rs k').wr=some (o,c')→k'≤k:=by
 have key: ∀r k0 c0,m-k0≤r→S k0→(rs k0).wr=some (o,c0)→∃k c,S k∧(rs k).wr=some (o,c)∧∀k' c',S k'→(rs k').wr=some (o,c')→k'≤k:=by
  intro r
  induction r with
  |zero=>intro k0 c0 hr hk _;have:=hS k0 hk;omega
  |succ r ih=>
   intro k0 c0 hr hk hw
   by_cases h: ∃k' c',S k'∧(rs k').wr=some (o,c')∧k0<k'
   ·obtain⟨k',c',h1,h2,h3⟩:=h
    exact ih k' c' (by have:=hS k' h1;omega) h1 h2
   ·exact⟨k0,c0,hk,hw,fun k' c' h1 h2=>Nat.le_of_not_lt fun h3=>h ⟨k',c',h1,h2,h3⟩⟩
 exact key (m-k0) k0 c0 (Nat.le_refl _) hk hw
theorem lastW_congr {S S':Nat→Prop}(hS: ∀k,S k→k<m){o:Nat}(h: ∀k c,(rs k).wr=some (o,c)→(S k↔S' k)):lastW rs S o=lastW rs S' o:=by
 by_cases h0: ∃k c,S k∧(rs k).wr=some (o,c)
 ·obtain⟨k0,c0,hk,hw⟩:=h0
  obtain⟨k,c,h1,h2,h3⟩:=lastW_ex hS hk hw
  rw[lastW_max h1 h2 h3,lastW_max ((h k c h2).1 h1) h2 fun k' c' hk' hw'=>h3 k' c' ((h k' c' hw').2 hk') hw']
 ·rw[lastW_no fun k c hk hw=>h0 ⟨k,c,hk,hw⟩,lastW_no fun k c hk hw=>h0 ⟨k,c,(h k c hw).2 hk,hw⟩]
structure Sound (V0:EnvF)(rs:Nat→RecD)(m:Nat):Prop where
 inj: ∀i j s,i<m→j<m→(rs i).d=some s→(rs j).d=some s→i=j
 nn: ∀i,i<m→(rs (i+1)).n=(rs i).n+(rs i).ad.length
 low: ∀i q c,i<m→(rs i).wr=some (q,c)→q<(rs i).n
theorem Sound.mono (hs:Sound V0 rs m){i j:Nat}(hij:i≤j)(hj:j≤m):(rs i).n≤(rs j).n:=by
 induction j with
 |zero=>
  have:i=0:=by omega
  subst this;exact Nat.le_refl _
 |succ j ih=>
  by_cases e:i=j+1
  ·subst e;exact Nat.le_refl _
  ·have:=ih (by omega) (by omega)
   have:=hs.nn j (by omega)
   omega
theorem Sound.dis (hs:Sound V0 rs m){i j o:Nat}(hi:i<m)(hj:j<m)(h1:(rs i).n≤o∧o<(rs i).n+(rs i).ad.length)(h2:(rs j).n≤o∧o<(rs j).n+(rs j).ad.length):i=j:=by
 rcases Nat.lt_trichotomy i j with h|h|h
 ·have:=hs.mono (i:=i+1) (j:=j) h (by omega);have:=hs.nn i hi;omega
 ·exact h
 ·have:=hs.mono (i:=j+1) (j:=i) h (by omega);have:=hs.nn j hj;omega
theorem ov_slot (hs:Sound V0 rs m){S:Nat→Prop}(hS: ∀k,S k→k<m){k s:Nat}(hk:S k)(hd:(rs k).d=some s):(ov V0 rs S).slot s=some (rs k).sv:=by
 have h: ∃j,S j∧(rs j).d=some s:=⟨k,hk,hd⟩
 simp only[ov]
 rw[dif_pos h]
 have:=hs.inj _ _ s (hS _ h.choose_spec.1) (hS k hk) h.choose_spec.2 hd
 rw[this]
theorem ov_slot_no {S:Nat→Prop}{s:Nat}(h: ∀k,S k→(rs k).d≠some s):(ov V0 rs S).slot s=V0.slot s:=by
 simp only[ov]
 rw[dif_neg]
 rintro⟨k,hk,e⟩
 exact h k hk e
theorem ov_own (hs:Sound V0 rs m){S:Nat→Prop}(hS: ∀k,S k→k<m){k o:Nat}(hk:S k)(ho:(rs k).n≤o∧o<(rs k).n+(rs k).ad.length):(ov V0 rs S).own o=match lastW rs S o with
  |some c=>c
  |none=>(rs k).ad[o-(rs k).n]? :=by
 have h: ∃j,S j∧(rs j).n≤o∧o<(rs j).n+(rs j).ad.length:=⟨k,hk,ho⟩
 simp only[ov]
 cases lastW rs S o with
 |some c=>rfl
 |none=>
  simp only[]
  rw[dif_pos h]
  have:=hs.dis (hS _ h.choose_spec.1) (hS k hk) h.choose_spec.2 ho
  rw[this]
theorem ov_own_no {S:Nat→Prop}{o:Nat}(h: ∀k,S k→¬((rs k).n≤o∧o<(rs k).n+(rs k).ad.length)):(ov V0 rs S).own o=match lastW rs S o with
  |some c=>c
  |none=>V0.own o:=by
 simp only[ov]
 cases lastW rs S o with
 |some c=>rfl
 |none=>
  simp only[]
  rw[dif_neg]
  rintro⟨k,hk,e⟩
  exact h k hk e
theorem ov_congr {S S':Nat→Prop}(h: ∀k,S k↔S' k):ov V0 rs S=ov V0 rs S':=by
 have:S=S':=funext fun k=>propext (h k)
 rw[this]
theorem ov_add (hs:Sound V0 rs m){S:Nat→Prop}(hS: ∀k,S k→k<m){j:Nat}(hj:j<m)(hn: ¬S j)(hmax: ∀q c k c',(rs j).wr=some (q,c)→S k→(rs k).wr=some (q,c')→k<j)(hcl: ∀k q c,S k→(rs k).wr=some (q,c)→¬((rs j).n≤q∧q<(rs j).n+(rs j).ad.length)):ov V0 rs (fun k=>S k∨k=j)=upd (ov V0 rs S) (rs j):=by
 have hS': ∀k,(S k∨k=j)→k<m:=fun k hk=>hk.elim (hS k) (fun e=>e▸hj)
 refine EnvF.ext (fun s=> ?_) (fun o=> ?_)
 ·by_cases e:(rs j).d=some s
  ·rw[ov_slot hs hS' (k:=j) (.inr rfl) e]
   simp[upd,e]
  ·simp only[upd]
   rw[if_neg e]
   by_cases h: ∃k,S k∧(rs k).d=some s
   ·obtain⟨k,hk,hd⟩:=h
    rw[ov_slot hs hS' (k:=k) (.inl hk) hd,ov_slot hs hS hk hd]
   ·rw[ov_slot_no (fun k hk hd=>hk.elim (fun hk=>h ⟨k,hk,hd⟩) (fun hk=>e (hk▸hd))),ov_slot_no (fun k hk hd=>h ⟨k,hk,hd⟩)]
 ·have plain:(∀c,(rs j).wr≠some (o,c))→(ov V0 rs (fun k=>S k∨k=j)).own o=addOwn (ov V0 rs S).own (rs j).n (rs j).ad o:=by
   intro hnw
   have hl:lastW rs (fun k=>S k∨k=j) o=lastW rs S o:=(lastW_congr hS (fun k c hw=>⟨.inl,fun h=>h.elim id fun e=>absurd (e▸hw) (hnw c)⟩)).symm
   simp only[addOwn]
   by_cases e:(rs j).n≤o∧o<(rs j).n+(rs j).ad.length
   ·rw[if_pos e,ov_own hs hS' (k:=j) (.inr rfl) e,hl,lastW_no fun k c hk hw=>hcl k o c hk hw e]
   ·rw[if_neg e]
    by_cases h: ∃k,S k∧(rs k).n≤o∧o<(rs k).n+(rs k).ad.length
    ·obtain⟨k,hk,ho⟩:=h
     rw[ov_own hs hS' (k:=k) (.inl hk) ho,ov_own hs hS hk ho,hl]
    ·rw[ov_own_no (fun k hk hd=>hk.elim (fun hk=>h ⟨k,hk,hd⟩) (fun hk=>e (hk▸hd))),ov_own_no (fun k hk hd=>h ⟨k,hk,hd⟩),hl]
  simp only[upd]
  cases hw:(rs j).wr with
  |none=>exact plain fun c=>by rw[hw];simp
  |some x=>
   obtain⟨q,c⟩:=x
   simp only[]
   by_cases e:o=q
   ·subst e
    rw[if_pos rfl]
    simp only[ov]
    rw[lastW_max (k:=j) (c:=c) (.inr rfl) hw fun k' c' hk' hw'=>hk'.elim (fun h=>Nat.le_of_lt (hmax o c k' c' hw h hw')) (fun h=>h▸Nat.le_refl _)]
   ·rw[if_neg e]
    exact plain fun c'=>by rw[hw];simp;intro h;exact absurd h.symm e
theorem ov_none:ov V0 rs (fun _=>False)=V0:=EnvF.ext (fun s=>ov_slot_no (fun _ hk=>hk.elim)) (fun o=>by
 rw[ov_own_no (fun _ hk=>hk.elim),lastW_no fun _ _ hk=>hk.elim])
theorem ov_text (hs:Sound V0 rs m){W:Nat→EnvF}(h0:W 0=V0)(hW: ∀i,i<m→W (i+1)=upd (W i) (rs i)): ∀i,i≤m→W i=ov V0 rs (· <i)
 |0,_=>by
  rw[h0]
  exact(ov_none (V0:=V0) (rs:=rs)).symm.trans (ov_congr fun k=>⟨fun h=>h.elim,fun h=>absurd h (Nat.not_lt_zero _)⟩)
 |i+1,hi=>by
  rw[hW i (by omega),ov_text hs h0 hW i (by omega),←ov_add hs (fun k hk=>by omega) (by omega) (by omega) (fun q c k c' _ hk _=>hk) (fun k q c hk hw hr=>by
   have:=hs.low k q c (by omega) hw
   have:=hs.mono (i:=k) (j:=i) (by omega) (by omega)
   omega)]
  exact ov_congr fun k=>by omega
end
def isSto:Op→Bool
 | .store .. =>true
 |_=>false
def isApp:Op→Bool
 | .call { callee:= .builtin .append,.. }=>true
 |_=>false
def ordered (ops:Array Oper)(k j:Nat):Bool:=if k<j then((Region.before ops).getD j 0).testBit k else((Region.before ops).getD k 0).testBit j
def okW (ops:Array Oper)(m:Nat):Bool:=
 (List.range ops.size).all fun j=>match ops[j]? with
  |none=>true
  |some o=>
   (o.after.toList.all fun e=> !Region.binds .any e||Nat.blt e.on j)&&
   (if j<m then(o.dst.isSome||isSto o.op)&&((List.range m).all fun i=>match ops[i]? with
     |none=>true
     |some oi=>i==j||((oi.dst.isNone|| !(oi.dst==o.dst))&&(match oi.dst with
      |some d=> !(o.looksAt ops).contains d||(if i<j then((Region.before ops).getD j 0).testBit i else((Region.before ops).getD i 0).testBit j)
      |none=>true)))
   else(List.range j).all fun i=>((Region.before ops).getD j 0).testBit i)
def okD (ops:Array Oper)(m:Nat):Bool:=okW ops m&&((ops.toList.take m).all fun o=>o.dst.isSome&& !isSto o.op&& !isApp o.op)
def nr (q:Nat):Option SV→Bool
 |some (.ref o)=>o != q
 |some (.optr o _ _ _)=>o != q
 |some (.fref _ o)=>o != q
 |some (.eq _ o)=>o != q
 |some (.tup l)=>l.all fun s=>match s with
  | .ref o=>o != q
  | .optr o _ _ _=>o != q
  | .fref _ o=>o != q
  | .eq _ o=>o != q
  |_=>true
 |_=>true
def tg:Option SV→List Nat
 |some (.optr q _ _ _)=>[q]
 |_=>[]
def tgr:Option SV→List Nat
 |some (.ref q)=>[q]
 |_=>[]
def SV.lowN (n:Nat):SV→Bool
 | .val .. | .nilsl| .fptr .. | .fix .. =>true
 | .ref o| .optr o _ _ _| .fref _ o| .eq _ o=>Nat.blt o n
 | .tup _=>false
theorem one_lowN {fr:Bool}{n n':Nat}(hn:n≤n'): ∀{res:List RV},(RV.one fr n' res).lowN n=true→RV.owns fr res=[]
 | [],h=>rfl
 | [.val p],h=>rfl
 | [.own e sz rows],h=>by
  have h:Nat.blt n' n=true:=h
  rw[Nat.blt_eq]at h;omega
 |r::r'::res,h=>by
  cases r<;>cases r'<;>cases h
theorem Does.noAd {K:Ctx}{V:EnvF}{n n':Nat}{o:Oper}{sv:SV}{ad:List Own}(h:Does K V n' o sv ad)(hn:n≤n')(hs:sv.lowN n=true):ad=[]:=by
 have no:Nat.blt n' n=true→False:=fun h=>by rw[Nat.blt_eq]at h;omega
 cases h with
 |call _ _ _ _=>exact one_lowN hn hs
 |ev _=>rfl
 |idxf=>rfl
 |idxo=>rfl
 |slf=>rfl
 |bsv=>rfl
 |gen=>rfl
 |box=>exact(no hs).elim
 |genO=>exact(no hs).elim
 |alloc=>exact(no hs).elim
 |bso=>exact(no hs).elim
def chk1 (n:Nat)(V V':EnvF)(ops:Array Oper)(m k:Nat)(l:List Nat):Bool:=
 l.all fun q=>(Nat.blt q n||(List.range k).all fun j=>ordered ops j k||(match ops[j]? with
   |some oj=>(match oj.dst with
    |some s=>(match V'.slot s with
     |some sv=>sv.lowN n
     |none=>false)
    |none=>true)
   |none=>true))&&(List.range m).all fun j=>j==k||ordered ops k j||(match ops[j]? with
    |some oj=>oj.op.operands.toList.all fun x=>match x with
     | .tmp s=>nr q (V.slot s)&&nr q (V'.slot s)
     |_=>true
    |none=>true)
def tgs (V V':EnvF)(o:Op):Option (List Nat):=
 match o with
 | .store _ (.tmp t) _=>some (tg (V.slot t)++tg (V'.slot t))
 | .store _ _ _=>none
 | .call { callee:= .builtin .append,args,.. }=>match args.toList with
  | .tmp t::_=>some (tgr (V.slot t)++tgr (V'.slot t))
  |_=>some []
 |_=>some []
def chk (n:Nat)(V V':EnvF)(ops:Array Oper)(m:Nat):Bool:=
 (List.range m).all fun k=>match ops[k]? with
  |some o=>match tgs V V' o.op with
   |some l=>chk1 n V V' ops m k l
   |none=>false
  |none=>true
theorem chk_plain {n:Nat}{V V':EnvF}{ops:Array Oper}{m:Nat}(h:okD ops m=true):chk n V V' ops m=true:=by
 simp only[okD,Bool.and_eq_true,List.all_eq_true]at h
 simp only[chk,List.all_eq_true,List.mem_range]
 intro k hk
 cases ho:ops[k]? with
 |none=>rfl
 |some o=>
  have hm:o∈ops.toList.take m:=List.mem_of_getElem? (i:=k) (by rw[List.getElem?_take,if_pos hk];simpa using ho)
  have h2:=h.2 o hm
  have h3:tgs V V' o.op=some []:=by
   unfold tgs
   split
   ·rename_i hop;rw[hop]at h2;simp[isSto]at h2
   ·rename_i hop;rw[hop]at h2;simp[isSto]at h2
   ·rename_i hop;rw[hop]at h2;simp[isApp]at h2
   ·rfl
  simp only[h3]
  rfl
def fold1 (acc:Array Nat)(l:List Edge)(s:Nat):Nat:=l.foldl (fun s e=>if Region.binds .any e then s ||| 2 ^ e.on ||| acc.getD e.on 0 else s) s
theorem fold1_bit {acc:Array Nat}{i:Nat}: ∀(l:List Edge) (s:Nat),(fold1 acc l s).testBit i=true→s.testBit i=true∨∃e∈l,Region.binds .any e=true∧(i=e.on∨(acc.getD e.on 0).testBit i=true)
 | [],s,h=> .inl h
 |e::l,s,h=>by
  simp only[fold1,List.foldl_cons]at h
  rcases fold1_bit l _ h with h1|⟨e',he,hb,hr⟩
  ·by_cases hb:Region.binds .any e=true
   ·rw[if_pos hb]at h1
    simp only[Nat.testBit_or,Bool.or_eq_true]at h1
    rcases h1 with (h1|h1)|h1
    ·exact .inl h1
    ·rw[Nat.testBit_two_pow]at h1
     exact .inr ⟨e,.head _,hb,.inl (of_decide_eq_true h1).symm⟩
    ·exact .inr ⟨e,.head _,hb,.inr h1⟩
   ·rw[if_neg hb]at h1;exact .inl h1
  ·exact .inr ⟨e',.tail _ he,hb,hr⟩
def beforeL:List Oper→Array Nat→Array Nat
 | [],acc=>acc
 |o::l,acc=>beforeL l (acc.push (fold1 acc o.after.toList 0))
theorem before_eq (ops:Array Oper):Region.before ops=beforeL ops.toList #[]:=by
 unfold Region.before
 rw[←Array.foldl_toList]
 generalize (#[]:Array Nat)=acc
 generalize ops.toList=l
 induction l generalizing acc with
 |nil=>rfl
 |cons o l ih=>
  simp only[List.foldl_cons,beforeL]
  rw[←ih]
  congr 2
  rw[←Array.foldl_toList]
  rfl
theorem beforeL_get: ∀(l:List Oper) (acc:Array Nat),(∀j,j<acc.size→(beforeL l acc).getD j 0=acc.getD j 0)∧
  ∀(i:Nat) o,l[i]? =some o→∃acc',(beforeL l acc).getD (acc.size+i) 0=fold1 acc' o.after.toList 0∧∀j,j<acc.size+i→acc'.getD j 0=(beforeL l acc).getD j 0∧acc'.size=acc.size+i
 | [],acc=>⟨fun _ _=>rfl,by simp⟩
 |o::l,acc=>by
  obtain⟨h1,h2⟩:=beforeL_get l (acc.push (fold1 acc o.after.toList 0))
  have hold: ∀j,j<acc.size→(beforeL (o::l) acc).getD j 0=acc.getD j 0:=by
   intro j hj
   simp only[beforeL]
   rw[h1 j (by simp;omega)]
   simp[Array.getD,hj,Array.getElem_push,show j<acc.size+1 by omega]
  refine⟨hold,fun i o' ho=> ?_⟩
  cases i with
  |zero=>
   simp at ho
   subst ho
   refine⟨acc,?_,fun j hj=>⟨(hold j (by simpa using hj)).symm,by simp⟩⟩
   simp only[beforeL,Nat.add_zero]
   rw[h1 acc.size (by simp)]
   simp[Array.getD]
  |succ i=>
   simp at ho
   obtain⟨acc',h3,h4⟩:=h2 i o' ho
   simp only[Array.size_push]at h3 h4
   refine⟨acc',?_,fun j hj=> ?_⟩
   ·rw[←h3];simp only[beforeL];congr 1;omega
   ·have:=h4 j (by omega)
    exact⟨this.1,by omega⟩
theorem before_bit {ops:Array Oper}{i j:Nat}{o:Oper}(hj:ops[j]? =some o)(hb:((Region.before ops).getD j 0).testBit i=true)(hback: ∀e∈o.after.toList,Region.binds .any e=true→e.on<j):
  ∃e∈o.after.toList,Region.binds .any e=true∧(i=e.on∨(e.on<j∧((Region.before ops).getD e.on 0).testBit i=true)):=by
 rw[before_eq]at hb⊢
 obtain⟨acc',h1,h2⟩:=(beforeL_get ops.toList #[]).2 j o (by simpa using hj)
 simp only[List.size_toArray,List.length_nil,Nat.zero_add]at h1 h2
 rw[h1]at hb
 rcases fold1_bit _ _ hb with h|⟨e,he,hbd,hr⟩
 ·simp at h
 ·refine⟨e,he,hbd,?_⟩
  rcases hr with hr|hr
  ·exact .inl hr
  ·have hlt:=hback e he hbd
   exact .inr ⟨hlt,by rw[←(h2 e.on hlt).1];exact hr⟩
end Go.Proofs.YtlcobmehnaeebaaGreat
namespace Go.Proofs.YtlcobmehnaeebaaGreat
open Go Go.RowKit
set_option linter.unusedVariables false
set_option linter.unusedSimpArgs false
structure OkD (ops:Array Oper)(m:Nat):Prop where
 back: ∀(j:Nat) o,ops[j]? =some o→∀e∈o.after.toList,Region.binds .any e=true→e.on<j
 free: ∀(j:Nat) o,ops[j]? =some o→j<m→∀(i:Nat) oi,i<m→ops[i]? =some oi→i≠j→(∀d,oi.dst=some d→o.dst≠some d)∧∀d,oi.dst=some d→d∈o.looksAt ops→if i<j then((Region.before ops).getD j 0).testBit i=true else((Region.before ops).getD i 0).testBit j=true
 tail: ∀(j:Nat) o,ops[j]? =some o→m≤j→∀i,i<j→((Region.before ops).getD j 0).testBit i=true
theorem okW_spec {ops:Array Oper}{m:Nat}(h:okW ops m=true):OkD ops m:=by
 unfold okW at h
 simp only[List.all_eq_true,List.mem_range]at h
 have hj: ∀(j:Nat) o,ops[j]? =some o→_:=fun j o ho=>h j (Array.getElem?_eq_some_iff.1 ho).1
 refine⟨?_,?_,?_⟩
 ·intro j o ho e he hb
  have:=h j (Array.getElem?_eq_some_iff.1 ho).1
  simp only[ho,Bool.and_eq_true,List.all_eq_true]at this
  have h2:=this.1 e he
  simp only[hb,Bool.not_true,Bool.false_or]at h2
  simpa[Nat.blt_eq]using h2
 ·intro j o ho hjm i oi him hoi hne
  have:=h j (Array.getElem?_eq_some_iff.1 ho).1
  simp only[ho,Bool.and_eq_true,List.all_eq_true,List.mem_range]at this
  have h2:=this.2
  rw[if_pos hjm]at h2
  simp only[Bool.and_eq_true,List.all_eq_true,List.mem_range]at h2
  have h3:=h2.2 i him
  simp only[hoi,Bool.or_eq_true,beq_iff_eq,Bool.and_eq_true,Bool.not_eq_true',beq_eq_false_iff_ne,ne_eq]at h3
  obtain⟨h4,h5⟩:=h3.resolve_left hne
  refine⟨fun d hd e=> ?_,fun d hd hm=> ?_⟩
  ·rcases h4 with h4|h4
   ·rw[hd]at h4;cases h4
   ·exact h4 (hd.trans e.symm)
  rw[hd]at h5
  simp only[Bool.or_eq_true,Bool.not_eq_true',List.contains_eq_mem,decide_eq_false_iff_not]at h5
  have h6:=h5.resolve_left (fun h=>h hm)
  split
  ·rename_i hlt;rw[if_pos hlt]at h6;exact h6
  ·rename_i hlt;rw[if_neg hlt]at h6;exact h6
 ·intro j o ho hmj i hij
  have:=h j (Array.getElem?_eq_some_iff.1 ho).1
  simp only[ho,Bool.and_eq_true,List.all_eq_true,List.mem_range]at this
  have h2:=this.2
  rw[if_neg (by omega)]at h2
  simp only[List.all_eq_true,List.mem_range]at h2
  exact h2 i hij
def Closed (ops:Array Oper)(L:Array Bool):Prop:= ∀(k:Nat) o,L.getD k false=true→ops[k]? =some o→∀e∈o.after.toList,Region.binds .any e=true→L.getD e.on false=true
theorem closed_bit {ops:Array Oper}{m:Nat}(hok:OkD ops m){L:Array Bool}(hc:Closed ops L): ∀(j:Nat) o,ops[j]? =some o→(∀e∈o.after.toList,Region.binds .any e=true→L.getD e.on false=true)→
  ∀i,((Region.before ops).getD j 0).testBit i=true→L.getD i false=true:=by
 intro j
 induction j using Nat.strongRecOn with
 |_ j ih=>
  intro o ho hl i hb
  obtain⟨e,he,hbd,hr⟩:=before_bit ho hb (hok.back j o ho)
  rcases hr with rfl|⟨hlt,hb2⟩
  ·exact hl e he hbd
  ·have hj:j<ops.size:=(Array.getElem?_eq_some_iff.1 ho).1
   have hoe:ops[e.on]? =some ops[e.on]:=Array.getElem?_eq_getElem (by omega)
   exact ih e.on hlt _ hoe (hc e.on _ (hl e he hbd) hoe) i hb2
theorem getD_set {L:Array Bool}{j k:Nat}(hj:j<L.size):(L.setIfInBounds j true).getD k false=true↔L.getD k false=true∨k=j:=by
 by_cases e:j=k
 ·subst e;simp[Array.getD_eq_getD_getElem?,hj]
 ·simp[Array.getD_eq_getD_getElem?,Array.getElem?_setIfInBounds,e,Ne.symm e]
theorem filter_lt {α:Type}{p q:α→Bool}: ∀(l:List α) (x:α),(∀y,q y=true→p y=true)→x∈l→p x=true→q x=false→(l.filter q).length<(l.filter p).length
 | [],x,_,h,_,_=>by cases h
 |y::l,x,hpq,hm,hp,hq=>by
  have hle: ∀(l:List α),(l.filter q).length≤(l.filter p).length:=by
   intro l
   induction l with
   |nil=>simp
   |cons z l ih=>
    simp only[List.filter_cons]
    cases hqz:q z with
    |true=>simp[hpq z hqz];omega
    |false=>cases hpz:p z<;>simp<;>omega
  simp only[List.filter_cons]
  cases hm with
  |head=>rw[hp,hq];simp;have:=hle l;omega
  |tail _ hm=>
   have ih:=filter_lt l x hpq hm hp hq
   cases hqy:q y with
   |true=>simp[hpq y hqy];omega
   |false=>cases hpy:p y<;>simp<;>omega
def open_ (ops:Array Oper)(L:Array Bool):Nat:=((List.range ops.size).filter fun i=> !L.getD i true).length
theorem ready_ne {ops:Array Oper}{m:Nat}(hok:OkD ops m){L:Array Bool}(hs:L.size=ops.size){i:Nat}(hi:i<ops.size)(hl:L.getD i false=false):Region.ready .any ops L≠[]:=by
 induction i using Nat.strongRecOn with
 |_ i ih=>
  by_cases h: ∃k,k<i∧L.getD k false=false
  ·obtain⟨k,hk,hlk⟩:=h
   exact ih k hk (by omega) hlk
  ·have hr:i∈Region.ready .any ops L:=by
    refine mem_ready.2 ⟨?_,ops[i],Array.getElem?_eq_getElem hi,fun e he hb=> ?_⟩
    ·simp only[Array.getD,hs,hi,dite_true]at hl⊢;exact hl
    ·have hlt:=hok.back i ops[i] (Array.getElem?_eq_getElem hi) e (by simpa using he) hb
     cases hx:L.getD e.on false with
     |true=>rfl
     |false=>exact absurd ⟨e.on,hlt,hx⟩ h
   intro hn
   rw[hn]at hr
   cases hr
theorem open_set {ops:Array Oper}{L:Array Bool}{j:Nat}(hs:L.size=ops.size)(hj:j<ops.size)(hl:L.getD j true=false):open_ ops (L.setIfInBounds j true)<open_ ops L:=by
 refine filter_lt _ j (fun y hy=> ?_) (List.mem_range.2 hj) (by simp only[hl];rfl) ?_
 ·by_cases e:j=y
  ·subst e
   simp[Array.getD_eq_getD_getElem?,hs,hj]at hy
  ·simpa[Array.getD_eq_getD_getElem?,Array.getElem?_setIfInBounds,e]using hy
 ·simp[Array.getD_eq_getD_getElem?,hs,hj]
theorem any_tail {P:Program}{ops:Array Oper}{Q:Exit→Act→World→Prop}{m:Nat}(hok:OkD ops m): ∀(r k:Nat),k+r=ops.size→m≤k→∀(fuel:Nat) (L:Array Bool) (a:Act) (w:World),L.size=ops.size→(∀i,L.getD i false=true↔i<k)→open_ ops L≤fuel→
  wpOps P ops Q (List.range' k r) a w→wpAny P .any ops Q fuel L a w
 |0,k,hk,hm,fuel,L,a,w,hs,hL,ho,h=>by
  have hr:Region.ready .any ops L=[]:=by
   cases hr:Region.ready .any ops L with
   |nil=>rfl
   |cons j js=>
    have hj:j∈Region.ready .any ops L:=by rw[hr];exact .head _
    obtain⟨h1,o,h2,_⟩:=mem_ready.1 hj
    have hlt:=(Array.getElem?_eq_some_iff.1 h2).1
    have:=(hL j).2 (by omega)
    simp only[Array.getD,hs,hlt,dite_true]at h1 this
    rw[h1]at this
    cases this
  have hq:Q .normal a w:=by simpa[wpOps]using h
  cases fuel with
  |zero=>exact⟨hr,hq⟩
  |succ fuel=>exact⟨fun _=>hq,fun i hi=>by rw[hr]at hi;cases hi⟩
 |r+1,k,hk,hm,fuel,L,a,w,hs,hL,ho,h=>by
  have hkl:k<ops.size:=by omega
  have hun:L.getD k false=false:=by
   cases hx:L.getD k false with
   |false=>rfl
   |true=>have:=(hL k).1 hx;omega
  have hne:=ready_ne hok hs hkl hun
  have hpos:0<open_ ops L:=by
   have:L.getD k true=false:=by simp only[Array.getD,hs,hkl,dite_true]at hun⊢;exact hun
   have:=open_set hs hkl this
   omega
  cases fuel with
  |zero=>omega
  |succ fuel=>
   refine⟨fun h0=>absurd h0 hne,fun j hj=> ?_⟩
   obtain⟨h1,o,h2,h3⟩:=mem_ready.1 hj
   have hlt:=(Array.getElem?_eq_some_iff.1 h2).1
   have hjk:j=k:=by
    rcases Nat.lt_trichotomy j k with h4|h4|h4
    ·have:=(hL j).2 h4
     simp only[Array.getD,hs,hlt,dite_true]at h1 this
     rw[h1]at this;cases this
    ·exact h4
    ·have hc:Closed ops L:=by
      intro i oi hi hoi e he hb
      have hik:=(hL i).1 hi
      exact(hL e.on).2 (Nat.lt_trans (hok.back i oi hoi e he hb) hik)
     have hb:=hok.tail j o h2 (by omega) k h4
     have:=closed_bit hok hc j o h2 (fun e he hb=>h3 e (by simpa using he) hb) k hb
     rw[hun]at this;cases this
   subst hjk
   rw[List.range'_succ,wpOps_cons]at h
   refine wpOp_mono (fun a' w' h'=> ?_) h
   refine any_tail hok r (j+1) (by omega) (by omega) fuel _ a' w' (by simp[hs]) (fun i=> ?_) ?_ h'
   ·rw[getD_set (by omega),hL i];omega
   ·have:=open_set hs hlt h1;omega
theorem draw_any {K:Ctx}{ops:Array Oper}{m:Nat}(hok:OkD ops m)(hm:m≤ops.size){V0 V':EnvF}{n0 n':Nat}{rs:Nat→RecD}{W:Nat→EnvF}
  (h0:W 0=V0) (h1:W m=V') (h2:(rs 0).n=n0) (h3:(rs m).n=n') (h4: ∀i,i<m→W (i+1)=upd (W i) (rs i)∧(rs (i+1)).n=(rs i).n+(rs i).ad.length)
  (h5: ∀(i:Nat) o,i<m→ops[i]? =some o→RO K ops (W i) o (rs i)) (hbef: ∀k j q c,k<m→j<m→j<k→(rs k).wr=some (q,c)→(rs j).n≤q→q<(rs j).n+(rs j).ad.length→((Region.before ops).getD k 0).testBit j=true)
  (h6: ∀k j,k<m→j<m→k≠j→∀q c o,(rs k).wr=some (q,c)→ops[j]? =some o→ordered ops k j=true∨∀x∈o.op.operands,∀sv,(W j).get x=some sv→sv.inU (· ≠q))
  (hsc: ∀s sv,V0.slot s=some sv→sv.inU (· <n0))
  {Q:Exit→Act→World→Prop} (hT: ∀a w φ,RelW K V' (· <n') φ a w→wpOps K.P ops Q (List.range' m (ops.size-m)) a w):
  ∀(fuel:Nat) (L:Array Bool) (φ:Nat→Value) (a:Act) (w:World),L.size=ops.size→(∀k,L.getD k false=true→k<m)→Closed ops L→open_ ops L≤fuel→
   RelW K (ov V0 rs (fun k=>L.getD k false=true)) (fun q=>q<n0∨∃k,L.getD k false=true∧(rs k).n≤q∧q<(rs k).n+(rs k).ad.length) φ a w→wpAny K.P .any ops Q fuel L a w:=by
 have hdst: ∀(i:Nat) o,i<m→ops[i]? =some o→o.dst=(rs i).d:=by
  intro i o hi ho
  have hr:=h5 i o hi ho
  generalize rs i=r at hr⊢
  cases hr with
  |does _ hd _ _=>exact hd
  |skip _ hd _=>exact hd
  |sto _ hd _=>exact hd
  |app _ hd _ _=>exact hd
  |appf _ hd _ _ _=>exact hd
  |lraw _ hd _ _ _ _ _ _ _=>exact hd
  |lmap _ hd _ _ _ _ _ _ _ _ _=>exact hd
 have hscope: ∀i,i≤m→∀s sv,(W i).slot s=some sv→sv.inU (· <(rs i).n):=by
  intro i
  induction i with
  |zero=>intro _ s sv h;rw[h0]at h;rw[h2];exact hsc s sv h
  |succ i ih=>
   intro hi s sv h
   have hoi:ops[i]? =some (ops[i]'(by omega)):=Array.getElem?_eq_getElem (by omega)
   have hr:=h5 i _ (by omega) hoi
   have hprev:=ih (by omega)
   rw[(h4 i (by omega)).1]at h
   rw[(h4 i (by omega)).2]
   have hup: ∀sv:SV,sv.inU (· <(rs i).n)→sv.inU (· <(rs i).n+(rs i).ad.length):=fun sv h=>SV.in_mono h fun q hq=>by
    show q<_
    have:q<(rs i).n:=hq
    omega
   generalize rs i=r at hr h hprev hup⊢
   cases hr with
   | @does d n sv' ad hw hd hdl hdo=>
    simp only[upd,Option.some.injEq]at h
    split at h
    ·obtain rfl:=Option.some.inj h
     refine SV.in_mono (hdo.in_ hprev) fun q hq=> ?_
     rcases hq with hq|hq
     ·show q<_
      have:q<n:=hq
      omega
     ·exact hq.2
    ·exact hup sv (hprev s sv h)
   | @skip d n hw hd hdl=>
    simp only[upd,Option.some.injEq]at h
    split at h
    ·obtain rfl:=Option.some.inj h
     intro s hs;cases hs
    ·exact hup sv (hprev s sv h)
   | @sto n q c hw hd hdo=>
    simp[upd]at h
    exact hup sv (hprev s sv h)
   | @app d n src c hw hd hdl hdo=>
    simp only[upd,Option.some.injEq]at h
    split at h
    ·obtain rfl:=Option.some.inj h
     show n<n+1
     omega
    ·exact hup sv (hprev s sv h)
   | @appf d n q sz e fr rows hw hd hdl hMn hdo=>
    simp only[upd,Option.some.injEq]at h
    split at h
    ·obtain rfl:=Option.some.inj h;trivial
    ·exact hup sv (hprev s sv h)
   | @lraw d n g q t x sx fr cs u hw hd hdl ho hx hc hp hg hall=>
    simp only[upd,Option.some.injEq]at h
    split at h
    ·obtain rfl:=Option.some.inj h
     exact hup (.eq u q) (hprev g _ hg)
    ·exact hup sv (hprev s sv h)
   | @lmap d n g q m' t x i si fi fr pi b l u hw hd hdl ho hx hm' hi hp hsem hg hall=>
    simp only[upd,Option.some.injEq]at h
    split at h
    ·obtain rfl:=Option.some.inj h
     exact hup (.eq u q) (hprev g _ hg)
    ·exact hup sv (hprev s sv h)
 have hlow: ∀i q c,i<m→(rs i).wr=some (q,c)→q<(rs i).n:=by
  intro i q c hi hw
  have hoi:ops[i]? =some (ops[i]'(by omega)):=Array.getElem?_eq_getElem (by omega)
  have hr:=h5 i _ hi hoi
  have hprev:=hscope i (by omega)
  generalize rs i=r at hr hw hprev⊢
  cases hr with
  |does _ _ _ _=>cases hw
  |skip _ _ _=>cases hw
  |lraw _ _ _ _ _ _ _ _ _=>cases hw
  |lmap _ _ _ _ _ _ _ _ _ _ _=>cases hw
  |sto _ _ hdo=>
   cases hw
   cases hdo with
   |mk ho hx hq hy hp hi hsz hcc=>exact get_in hprev hx
  |app _ _ _ hdo=>
   cases hdo with
   |nil _ _ _ _ _ _ _ _ _ _ _ _ _ _=>cases hw
   | @own args tys s y t e q sz fr fy rows rows2 sy inf z ho ha ht hx=>
    cases hw
    exact get_in hprev hx
  |appf _ _ _ _ hdo=>
   cases hdo with
   | @own args tys s y t e q sz fr fy rows rows2 sy inf z ho ha ht hx=>
    cases hw
    exact get_in hprev hx
 have hs:Sound V0 rs m:=by
  refine⟨fun i j s hi hj e e2=> ?_,fun i hi=>(h4 i hi).2,hlow⟩
  ·by_cases hij:i=j
   ·exact hij
   ·have hoi:ops[i]? =some (ops[i]'(by omega)):=Array.getElem?_eq_getElem (by omega)
    have hoj:ops[j]? =some (ops[j]'(by omega)):=Array.getElem?_eq_getElem (by omega)
    have:=(hok.free j _ hoj hj i _ hi hoi hij).1 s ((hdst i _ hi hoi).trans e)
    exact absurd ((hdst j _ hj hoj).trans e2) this
 have hWi: ∀i,i≤m→W i=ov V0 rs (· <i):=ov_text hs h0 fun i hi=>(h4 i hi).1
 have hnn: ∀i,i≤m→n0≤(rs i).n:=fun i hi=>by rw[←h2];exact hs.mono (Nat.zero_le _) hi
 have hinterval: ∀i,i≤m→∀q,q<(rs i).n→q<n0∨∃k,k<i∧(rs k).n≤q∧q<(rs k).n+(rs k).ad.length:=by
  intro i
  induction i with
  |zero=>intro _ q hq;rw[h2]at hq;exact .inl hq
  |succ i ih=>
   intro hi q hq
   rw[(h4 i (by omega)).2]at hq
   by_cases hlt:q<(rs i).n
   ·rcases ih (by omega) q hlt with h|⟨k,hk,h⟩
    ·exact .inl h
    ·exact .inr ⟨k,by omega,h⟩
   ·exact .inr ⟨i,by omega,by omega,hq⟩
 intro fuel
 induction fuel with
 |zero=>
  intro L φ a w hsz hLm hc ho hrel
  have hall: ∀i,i<ops.size→L.getD i false=true:=by
   intro i hi
   cases hx:L.getD i false with
   |true=>rfl
   |false=>
    have h1:L.getD i true=false:=by simp only[Array.getD,hsz,hi,dite_true]at hx⊢;exact hx
    have:=open_set hsz hi h1
    omega
  have hme:m=ops.size:=by
   rcases Nat.lt_or_ge m ops.size with h|h
   ·exact absurd (hLm m (hall m h)) (Nat.lt_irrefl _)
   ·omega
  have hL: ∀i,L.getD i false=true↔i<m:=fun i=>⟨hLm i,fun hi=>hall i (by omega)⟩
  have hV:ov V0 rs (fun k=>L.getD k false=true)=V':=by rw[←h1,hWi m (Nat.le_refl _)];exact ov_congr hL
  have hU:(fun q=>q<n0∨∃k,L.getD k false=true∧(rs k).n≤q∧q<(rs k).n+(rs k).ad.length)=(· <n'):=by
   funext q
   simp only[eq_iff_iff]
   rw[←h3]
   constructor
   ·rintro(h|⟨k,hk,h⟩)
    ·have:=hnn m (Nat.le_refl _);omega
    ·have:=hs.mono (i:=k+1) (j:=m) ((hL k).1 hk) (Nat.le_refl _);have:=hs.nn k ((hL k).1 hk);omega
   ·intro h
    rcases hinterval m (Nat.le_refl _) q h with h|⟨k,hk,h⟩
    ·exact .inl h
    ·exact .inr ⟨k,(hL k).2 hk,h⟩
  rw[hV,hU]at hrel
  exact any_tail hok (ops.size-m) m (by omega) (Nat.le_refl _) 0 L a w hsz hL ho (hT a w φ hrel)
 |succ fuel ih=>
  intro L φ a w hsz hLm hc ho hrel
  by_cases hfull: ∀i,i<m→L.getD i false=true
  ·have hL: ∀i,L.getD i false=true↔i<m:=fun i=>⟨hLm i,hfull i⟩
   have hV:ov V0 rs (fun k=>L.getD k false=true)=V':=by rw[←h1,hWi m (Nat.le_refl _)];exact ov_congr hL
   have hU:(fun q=>q<n0∨∃k,L.getD k false=true∧(rs k).n≤q∧q<(rs k).n+(rs k).ad.length)=(· <n'):=by
    funext q
    simp only[eq_iff_iff]
    rw[←h3]
    constructor
    ·rintro(h|⟨k,hk,h⟩)
     ·have:=hnn m (Nat.le_refl _);omega
     ·have:=hs.mono (i:=k+1) (j:=m) ((hL k).1 hk) (Nat.le_refl _);have:=hs.nn k ((hL k).1 hk);omega
    ·intro h
     rcases hinterval m (Nat.le_refl _) q h with h|⟨k,hk,h⟩
     ·exact .inl h
     ·exact .inr ⟨k,(hL k).2 hk,h⟩
   rw[hV,hU]at hrel
   exact any_tail hok (ops.size-m) m (by omega) (Nat.le_refl _) (fuel+1) L a w hsz hL ho (hT a w φ hrel)
  ·obtain⟨i0,hi0⟩:=Classical.not_forall.1 hfull
   obtain⟨hi0m,hi0l⟩:=Classical.not_imp.1 hi0
   have hi0l:L.getD i0 false=false:=by cases hx:L.getD i0 false with
    |false=>rfl
    |true=>exact absurd hx hi0l
   refine⟨fun hn=>absurd hn (ready_ne hok hsz (by omega) hi0l),fun j hj=> ?_⟩
   obtain⟨hj1,o,hjo,hj3⟩:=mem_ready.1 hj
   have hj3': ∀e∈o.after.toList,Region.binds .any e=true→L.getD e.on false=true:=fun e he hb=>hj3 e (by simpa using he) hb
   have hjl:j<ops.size:=(Array.getElem?_eq_some_iff.1 hjo).1
   have hjf:L.getD j false=false:=by simp only[Array.getD,hsz,hjl,dite_true]at hj1⊢;exact hj1
   have hjm:j<m:=by
    rcases Nat.lt_or_ge j m with h|h
    ·exact h
    ·have:=closed_bit hok hc j o hjo hj3' i0 (hok.tail j o hjo h i0 (by omega))
     rw[hi0l]at this;cases this
   have hro:=h5 j o hjm hjo
   have hst:=h6
   have hslot: ∀t,t∈o.looksAt ops→(ov V0 rs (fun k=>L.getD k false=true)).slot t=(W j).slot t:=by
    intro t ht
    rw[hWi j (by omega)]
    by_cases h: ∃i,i<m∧(rs i).d=some t
    ·obtain⟨i,him,hdi⟩:=h
     have hoi:ops[i]? =some (ops[i]'(by omega)):=Array.getElem?_eq_getElem (by omega)
     have hdst:=hdst i _ him hoi
     rcases Nat.lt_trichotomy i j with hij|hij|hij
     ·have hb:=(hok.free j o hjo hjm i _ him hoi (by omega)).2 t (by rw[hdst,hdi]) ht
      rw[if_pos hij]at hb
      have hl:=closed_bit hok hc j o hjo hj3' i hb
      rw[ov_slot hs hLm (k:=i) hl hdi,ov_slot hs (S:=(· <j)) (fun k hk=>by omega) hij hdi]
     ·subst hij
      rw[ov_slot_no,ov_slot_no]
      ·intro k hk e
       have:=hs.inj k i t (by omega) him e hdi;omega
      ·intro k hk e
       have:=hs.inj k i t (hLm k hk) him e hdi
       subst this;rw[hjf]at hk;cases hk
     ·have hb:=(hok.free j o hjo hjm i _ him hoi (by omega)).2 t (by rw[hdst,hdi]) ht
      rw[if_neg (by omega)]at hb
      have hil:L.getD i false=false:=by
       cases hx:L.getD i false with
       |false=>rfl
       |true=>
        have:=closed_bit hok hc i _ hoi (hc i _ hx hoi) j hb
        rw[hjf]at this;cases this
      rw[ov_slot_no,ov_slot_no]
      ·intro k hk e
       have:=hs.inj k i t (by omega) him e hdi;omega
      ·intro k hk e
       have:=hs.inj k i t (hLm k hk) him e hdi
       subst this;rw[hil]at hk;cases hk
    ·rw[ov_slot_no (fun k hk e=>h ⟨k,hLm k hk,e⟩),ov_slot_no (fun k hk e=>h ⟨k,by omega,e⟩)]
   have hordL: ∀k,k<m→k≠j→ordered ops k j=true→(L.getD k false=true↔k<j):=by
    intro k hk hkj ho
    have hok':ops[k]? =some (ops[k]'(by omega)):=Array.getElem?_eq_getElem (by omega)
    unfold ordered at ho
    split at ho
    ·rename_i hlt
     exact⟨fun _=>hlt,fun _=>closed_bit hok hc j o hjo hj3' k ho⟩
    ·rename_i hlt
     refine⟨fun hl=> ?_,fun h=>absurd h hlt⟩
     have:=closed_bit hok hc k _ hok' (hc k _ hl hok') j ho
     rw[hjf]at this;cases this
   have hag:Agree (W j) (ov V0 rs (fun k=>L.getD k false=true)) o:=by
    intro x hx
    have hget:(ov V0 rs (fun k=>L.getD k false=true)).get x=(W j).get x:=by
     cases x with
     |tmp t=>
      refine hslot t ?_
      simp only[Oper.looksAt,List.mem_append,List.mem_filterMap]
      exact .inl ⟨.tmp t,by simpa using hx,rfl⟩
     |const v=>rfl
     |func f=>rfl
     |global g=>rfl
    refine⟨hget,fun sv hsv=> ?_⟩
    have h60:sv.inU (· <(rs j).n):=get_in (hscope j (by omega)) hsv
    have h7:=get_in (U:=fun q=>q<n0∨∃k,L.getD k false=true∧(rs k).n≤q∧q<(rs k).n+(rs k).ad.length) hrel.sin (hget.trans hsv)
    have h10:sv.inU (fun q=> ∀k c,k<m→k≠j→(rs k).wr=some (q,c)→ordered ops k j=true):=by
     have one: ∀q,(∀k c,k<m→k≠j→(rs k).wr=some (q,c)→ordered ops k j=true∨∀sv,(W j).get x=some sv→sv.inU (· ≠q)):=fun q k c hk hkj hw=>(h6 k j hk hjm hkj q c o hw hjo).imp id fun h=>h x hx
     cases sv with
     |tup l=>
      intro s hs'
      cases s with
      |ref q=>exact fun k c hk hkj hw=>(one q k c hk hkj hw).elim id fun h=>absurd rfl (h _ hsv _ hs')
      |optr q i off st=>exact fun k c hk hkj hw=>(one q k c hk hkj hw).elim id fun h=>absurd rfl (h _ hsv _ hs')
      |fref _ q=>exact fun k c hk hkj hw=>(one q k c hk hkj hw).elim id fun h=>absurd rfl (h _ hsv _ hs')
      |eq _ q=>exact fun k c hk hkj hw=>(one q k c hk hkj hw).elim id fun h=>absurd rfl (h _ hsv _ hs')
      |tup l=>exact(h60 _ hs').elim
      |_=>trivial
     |ref q=>exact fun k c hk hkj hw=>(one q k c hk hkj hw).elim id fun h=>absurd rfl (h _ hsv)
     |optr q i off st=>exact fun k c hk hkj hw=>(one q k c hk hkj hw).elim id fun h=>absurd rfl (h _ hsv)
     |fref _ q=>exact fun k c hk hkj hw=>(one q k c hk hkj hw).elim id fun h=>absurd rfl (h _ hsv)
     |eq _ q=>exact fun k c hk hkj hw=>(one q k c hk hkj hw).elim id fun h=>absurd rfl (h _ hsv)
     |_=>trivial
    have key: ∀q,q<(rs j).n→(q<n0∨∃k,L.getD k false=true∧(rs k).n≤q∧q<(rs k).n+(rs k).ad.length)→(∀k c,k<m→k≠j→(rs k).wr=some (q,c)→ordered ops k j=true)→(ov V0 rs (fun k=>L.getD k false=true)).own q=(W j).own q:=by
     intro q hq1 hq2 hq4
     rw[hWi j (by omega)]
     have hlast:lastW rs (fun k=>L.getD k false=true) q=lastW rs (fun k=>k<j) q:=by
      have:lastW rs (fun k=>L.getD k false=true∧k<m) q=lastW rs (fun k=>k<j∧k<m) q:=by
       refine lastW_congr (m:=m) (fun k hk=>hk.2) fun k c hw=> ?_
       by_cases hkm:k<m
       ·by_cases hkj:k=j
        ·subst hkj;simp[hjf]
        ·simp only[hkm,and_true];exact hordL k hkm hkj (hq4 k c hkm hkj hw)
       ·simp[hkm]
      have e1:(fun k=>L.getD k false=true∧k<m)=(fun k=>L.getD k false=true):=funext fun k=>by simp only[eq_iff_iff];exact⟨fun h=>h.1,fun h=>⟨h,hLm k h⟩⟩
      have e2:(fun k=>k<j∧k<m)=(fun k=>k<j):=funext fun k=>by simp only[eq_iff_iff];omega
      rw[e1,e2]at this
      exact this
     rcases hq2 with hq2|⟨k,hk,hq3⟩
     ·rw[ov_own_no (fun k hk hq=>by have:=hnn k (Nat.le_of_lt (hLm k hk));omega),ov_own_no (fun k hk hq=>by have:=hnn k (by omega);omega),hlast]
     ·have hkj:k<j:=by
       rcases Nat.lt_or_ge k j with h|h
       ·exact h
       ·have:=hs.mono h (Nat.le_of_lt (hLm k hk));omega
      rw[ov_own hs hLm hk hq3,ov_own hs (S:=(· <j)) (fun k hk=>by omega) hkj hq3,hlast]
    cases sv with
    |tup l=>
     intro s hs'
     have h8:=h60 s hs'
     have h9:=h7 s hs'
     have h11:=h10 s hs'
     cases s with
     |ref q=>exact key q h8 h9 h11
     |optr q i off st=>exact key q h8 h9 h11
     |fref _ q=>exact key q h8 h9 h11
     |eq _ q=>exact key q h8 h9 h11
     |tup l=>exact h8
     |_=>trivial
    |ref q=>exact key q h60 h7 h10
    |optr q i off st=>exact key q h60 h7 h10
    |fref _ q=>exact key q h60 h7 h10
    |eq _ q=>exact key q h60 h7 h10
    |_=>trivial
   have hwant:wants ops (ov V0 rs (fun k=>L.getD k false=true)) o=wants ops (W j) o:=by
    unfold wants
    cases hg:o.guard with
    |none=>rfl
    |some g=>
     obtain⟨gi,want⟩:=g
     simp only[]
     cases hoj:ops[gi]? with
     |none=>rfl
     |some oj=>
      simp only[]
      cases hdj:oj.dst with
      |none=>rfl
      |some dg=>
       simp only[]
       rw[hslot dg (by simp[Oper.looksAt,hg,hoj,hdj])]
   have hS': ∀k,(L.setIfInBounds j true).getD k false=true↔(L.getD k false=true∨k=j):=fun k=>getD_set (by omega)
   have hmaxj: ∀q c k c',(rs j).wr=some (q,c)→L.getD k false=true→(rs k).wr=some (q,c')→k<j:=by
    intro q c k c' hwj hk hwk
    have hkm:=hLm k hk
    have hkj:k≠j:=fun e=>by subst e;rw[hjf]at hk;cases hk
    have hord:ordered ops k j=true:=by
     refine(h6 k j hkm hjm hkj q c' o hwk hjo).elim id fun h=> ?_
     have hr:=hro
     generalize rs j=r at hr hwj
     cases hr with
     |does _ _ _ _=>cases hwj
     |skip _ _ _=>cases hwj
     |lraw _ _ _ _ _ _ _ _ _=>cases hwj
     |lmap _ _ _ _ _ _ _ _ _ _ _=>cases hwj
     |sto _ _ hdo=>
      cases hwj
      cases hdo with
      |mk ho hx hq hy hp hi hsz hcc=>exact absurd rfl (h _ (by rw[ho];simp[Op.operands]) _ hx)
     |app _ _ _ hdo=>
      cases hdo with
      |nil _ _ _ _ _ _ _ _ _ _ _ _ _ _=>cases hwj
      | @own args tys s y t e q sz fr fy rows rows2 sy inf z ho ha ht hx=>
       cases hwj
       exact absurd rfl (h s (by rw[ho];have:s∈args.toList:=(by rw[ha];exact .head _);simp[Op.operands,Call.operands];simpa using this) _ hx)
     |appf _ _ _ _ hdo=>
      cases hdo with
      | @own args tys s y t e q sz fr fy rows rows2 sy inf z ho ha ht hx=>
       cases hwj
       exact absurd rfl (h s (by rw[ho];have:s∈args.toList:=(by rw[ha];exact .head _);simp[Op.operands,Call.operands];simpa using this) _ hx)
    exact(hordL k hkm hkj hord).1 hk
   have hov:ov V0 rs (fun k=>(L.setIfInBounds j true).getD k false=true)=upd (ov V0 rs (fun k=>L.getD k false=true)) (rs j):=by
    rw[←ov_add hs hLm hjm (by rw[hjf];simp) hmaxj fun k q c hk hw hr=>by
     have hkm:=hLm k hk
     have hkj:j<k:=by
      rcases Nat.lt_or_ge j k with h|h
      ·exact h
      ·have:=hs.mono h (Nat.le_of_lt hjm);have:=hlow k q c hkm hw;omega
     have hok':ops[k]? =some (ops[k]'(by omega)):=Array.getElem?_eq_getElem (by omega)
     have:=closed_bit hok hc k _ hok' (hc k _ hk hok') j (hbef k j q c hkm hjm hkj hw hr.1 hr.2)
     rw[hjf]at this;cases this]
    exact ov_congr hS'
   have hc':Closed ops (L.setIfInBounds j true):=by
    intro k ok hk hok' e he hb
    rcases (hS' k).1 hk with hk|rfl
    ·exact(hS' _).2 (.inl (hc k ok hk hok' e he hb))
    ·rw[hjo]at hok'
     obtain rfl:=Option.some.inj hok'
     exact(hS' _).2 (.inl (hj3' e he hb))
   have hnext: ∀φ' a' w',RelW K (upd (ov V0 rs (fun k=>L.getD k false=true)) (rs j)) (addU (fun q=>q<n0∨∃k,L.getD k false=true∧(rs k).n≤q∧q<(rs k).n+(rs k).ad.length) (rs j).n (rs j).ad) φ' a' w'→
     wpAny K.P .any ops Q fuel (L.setIfInBounds j true) a' w':=by
    intro φ' a' w' hr
    refine ih _ φ' a' w' (by simp[hsz]) (fun k hk=>((hS' k).1 hk).elim (hLm k) (fun e=>e▸hjm)) hc' ?_ ?_
    ·have:=open_set hsz hjl hj1;omega
    ·rw[hov]
     have hU:(fun q=>q<n0∨∃k,(L.setIfInBounds j true).getD k false=true∧(rs k).n≤q∧q<(rs k).n+(rs k).ad.length)=addU (fun q=>q<n0∨∃k,L.getD k false=true∧(rs k).n≤q∧q<(rs k).n+(rs k).ad.length) (rs j).n (rs j).ad:=by
      funext q
      simp only[addU,eq_iff_iff]
      constructor
      ·rintro(h|⟨k,hk,h⟩)
       ·exact .inl (.inl h)
       ·rcases (hS' k).1 hk with hk|rfl
        ·exact .inl (.inr ⟨k,hk,h⟩)
        ·exact .inr h
      ·rintro((h|⟨k,hk,h⟩)|h)
       ·exact .inl h
       ·exact .inr ⟨k,(hS' k).2 (.inl hk),h⟩
       ·exact .inr ⟨j,(hS' j).2 (.inr rfl),h⟩
     rw[hU]
     exact hr
   unfold wpOp
   simp only[hjo]
   have hfresh: ∀q,(rs j).n≤q→q<(rs j).n+(rs j).ad.length→¬(q<n0∨∃k,L.getD k false=true∧(rs k).n≤q∧q<(rs k).n+(rs k).ad.length):=by
    intro q hq1 hq2 hq3
    rcases hq3 with hq3|⟨k,hk,hq3⟩
    ·have:=hnn j (by omega);omega
    ·have:=hs.dis (hLm k hk) hjm hq3 ⟨hq1,hq2⟩
     subst this;rw[hjf]at hk;cases hk
   generalize rs j=r at hro hnext hfresh
   cases hro with
   | @does d n sv ad hw hd hdl hdo=>
    rw[wants_sound hrel (hwant.trans hw),if_pos rfl]
    refine .inl ((hdo.congr hag).sound hrel (fun q hq1 hq2 hq3=>hfresh q hq1 hq2 hq3) fun v w' φ' hr1 hr2 hr3=> ?_)
    refine hnext φ' _ _ ?_
    rw[hd]
    exact hr1.put hdl hr2 hr3 rfl (fun s sv' hsv=>by
     simp only[upd,Option.some.injEq]at hsv
     split at hsv
     ·rename_i e;exact .inl ⟨e.symm,(Option.some.inj hsv).symm⟩
     ·rename_i e;exact .inr ⟨Ne.symm e,hsv⟩)
   | @skip d n hw hd hdl=>
    rw[wants_sound hrel (hwant.trans hw),if_neg (by simp)]
    refine hnext φ _ _ ?_
    rw[hd]
    have hput:=hrel.put (V':=upd (ov V0 rs (fun k=>L.getD k false=true)) ⟨some d,.tup [],[],n,none⟩) hdl (v:=undef) (sv:= .tup []) ⟨[],rfl,.nil⟩ (by intro s hs;cases hs) (by
     funext q
     exact addOwn_nil _ _ _) (fun s sv' hsv'=>by
      simp only[upd,Option.some.injEq]at hsv'
      split at hsv'
      ·rename_i e;exact .inl ⟨e.symm,(Option.some.inj hsv').symm⟩
      ·rename_i e;exact .inr ⟨Ne.symm e,hsv'⟩)
    rw[addU_nil]
    exact hput
   | @sto n q c hw hd hdo=>
    rw[wants_sound hrel (hwant.trans hw),if_pos rfl]
    cases hdo.congr hag with
    |mk ho hx hq hy hp hi hsz hcc=>
     refine .inl (store_sound hrel ho hx hq hy hp hi hsz hcc fun w' hr1=> ?_)
     rw[hd]
     refine hnext φ _ _ ?_
     rw[addU_nil]
     have e:upd (ov V0 rs (fun k=>L.getD k false=true)) ⟨none,.nilsl,[],n,some (q,some c)⟩=⟨(ov V0 rs (fun k=>L.getD k false=true)).slot,fun j=>if j=q then some c else(ov V0 rs (fun k=>L.getD k false=true)).own j⟩:=by
      refine EnvF.ext (fun s=>by simp[upd]) (fun o=> ?_)
      simp only[upd]
      split
      ·rfl
      ·exact addOwn_nil _ _ _
     rw[e]
     exact hr1
   | @app d n src c hw hd hdl hdo=>
    rw[wants_sound hrel (hwant.trans hw),if_pos rfl]
    have hn: ¬(n<n0∨∃k,L.getD k false=true∧(rs k).n≤n∧n<(rs k).n+(rs k).ad.length):=hfresh n (Nat.le_refl _) (by show n<n+1;omega)
    have fin: ∀φ' w',RelW K ⟨(ov V0 rs (fun k=>L.getD k false=true)).slot,swapOwn (ov V0 rs (fun k=>L.getD k false=true)).own src n c⟩ (fun i=>(i<n0∨∃k,L.getD k false=true∧(rs k).n≤i∧i<(rs k).n+(rs k).ad.length)∨i=n) φ' a w'→(∀q,src=some q→q≠n)→
      wpAny K.P .any ops Q fuel (L.setIfInBounds j true) (a.put o.dst (φ' n)) w':=by
     intro φ' w' hr1 hqn
     refine hnext φ' _ _ ?_
     rw[hd]
     have hU:addU (fun q=>q<n0∨∃k,L.getD k false=true∧(rs k).n≤q∧q<(rs k).n+(rs k).ad.length) n [c]=fun i=>(i<n0∨∃k,L.getD k false=true∧(rs k).n≤i∧i<(rs k).n+(rs k).ad.length)∨i=n:=by
      funext i
      simp only[addU,List.length_singleton,eq_iff_iff]
      exact or_congr Iff.rfl (by omega)
     rw[hU]
     have ho:(upd (ov V0 rs (fun k=>L.getD k false=true)) ⟨some d,.ref n,[c],n,src.map fun q=>(q,none)⟩).own=swapOwn (ov V0 rs (fun k=>L.getD k false=true)).own src n c:=by
      funext i
      have hadd:addOwn (ov V0 rs (fun k=>L.getD k false=true)).own n [c] i=if i=n then some c else(ov V0 rs (fun k=>L.getD k false=true)).own i:=by
       simp only[addOwn,List.length_singleton]
       by_cases e:i=n
       ·subst e;rw[if_pos (by omega),if_pos rfl];simp
       ·rw[if_neg (by omega),if_neg e]
      cases src with
      |none=>simp only[upd,Option.map_none,swapOwn,hadd];rfl
      |some q=>
       have hne:=hqn q rfl
       simp only[upd,Option.map_some,swapOwn,hadd,Option.some.injEq]
       by_cases e:i=n
       ·subst e;rw[if_neg (Ne.symm hne),if_pos rfl,if_pos rfl]
       ·rw[if_neg e,if_neg e]
        by_cases e2:i=q
        ·rw[if_pos e2,if_pos e2.symm]
        ·rw[if_neg e2,if_neg (Ne.symm e2)]
     exact hr1.put hdl (sv:= .ref n) rfl (.inr rfl) ho (fun s sv' hsv=>by
      simp only[upd,Option.some.injEq]at hsv
      split at hsv
      ·rename_i e;exact .inl ⟨e.symm,(Option.some.inj hsv).symm⟩
      ·rename_i e;exact .inr ⟨Ne.symm e,hsv⟩)
    cases hdo.congr hag with
    | @own args tys s y t e q sz fr fy rows rows2 sy inf z ho ha ht hx hq hy hp hu hi hsz hz hzs h0 hb1 hl2 hby=>
     have h63:rows.length+rows2.length≤maxLen:=by
      have:(rows.length+rows2.length)*1≤(rows.length+rows2.length)*inf.bytes:=Nat.mul_le_mul_left _ hb1
      have:maxLen=2 ^ 63-1:=rfl
      omega
     refine .inl (append_sound hrel ho ha ht (.inl ⟨q,rfl,hx,hq⟩) hy hp hu hi hsz hz hzs h0 hl2 h63 hby hn fun v w' φ' hr1 hv=> ?_)
     rw[hv]
     exact fin φ' w' hr1 fun q' e=>by
      cases e
      intro e
      subst e
      exact hn (hrel.inU _ _ hq)
    | @nil args tys s y t e fy rows2 sy inf z ho ha ht hx hy hp hu hi hz hzs h0 hb1 hl2 hby=>
     have h63:rows2.length≤maxLen:=by
      have:rows2.length*1≤rows2.length*inf.bytes:=Nat.mul_le_mul_left _ hb1
      have:maxLen=2 ^ 63-1:=rfl
      omega
     refine .inl (append_sound hrel ho ha ht (.inr ⟨rfl,hx,rfl,rfl⟩) hy hp hu hi rfl hz hzs h0 hl2 (by simpa using h63) (by simpa using hby) hn fun v w' φ' hr1 hv=> ?_)
     rw[hv]
     exact fin φ' w' (by simpa using hr1) fun q' e=>by cases e
   | @appf d n q sz e fr rows hw hd hdl hMn hdo=>
    rw[wants_sound hrel (hwant.trans hw),if_pos rfl]
    obtain⟨n2,hn2⟩: ∃n2,¬(n2<n0∨∃k,L.getD k false=true∧(rs k).n≤n2∧n2<(rs k).n+(rs k).ad.length):=by
     refine⟨(rs m).n,?_⟩
     rintro(h|⟨k,hk,h⟩)
     ·have:=hnn m (Nat.le_refl _);omega
     ·have:=hs.mono (i:=k+1) (j:=m) (hLm k hk) (Nat.le_refl _);have:=hs.nn k (hLm k hk);omega
    cases hdo.congr hag with
    | @own args tys s y t e q sz fr1 fy rows1 rows2 sy inf z ho ha ht hx hq hy hp hu hi hsz hz hzs h0 hb1 hl2 hby=>
     have h63:rows1.length+rows2.length≤maxLen:=by
      have:(rows1.length+rows2.length)*1≤(rows1.length+rows2.length)*inf.bytes:=Nat.mul_le_mul_left _ hb1
      have:maxLen=2 ^ 63-1:=rfl
      omega
     refine .inl (append_sound hrel ho ha ht (.inl ⟨q,rfl,hx,hq⟩) hy hp hu hi hsz hz hzs h0 hl2 h63 hby hn2 fun v w' φ' hr1 hv=> ?_)
     obtain⟨hr2,hrep⟩:=hr1.frzN hMn hn2 hrel.sin hrel.inU
     rw[hv]
     refine hnext φ' _ _ ?_
     rw[hd,addU_nil]
     have hown:(upd (ov V0 rs (fun k=>L.getD k false=true)) ⟨some d,.val (fr1&&fy) (.sl (rows1++rows2)),[],n,some (q,none)⟩).own=fun i=>if some q=some i then none else(ov V0 rs (fun k=>L.getD k false=true)).own i:=by
      funext i
      simp only[upd,Option.some.injEq]
      by_cases e2:i=q
      ·rw[if_pos e2,if_pos e2.symm]
      ·rw[if_neg e2,if_neg (Ne.symm e2)];exact addOwn_nil _ _ _
     exact hr2.put hdl (sv:= .val (fr1&&fy) (.sl (rows1++rows2))) hrep trivial hown (fun s sv' hsv=>by
      simp only[upd,Option.some.injEq]at hsv
      split at hsv
      ·rename_i e;exact .inl ⟨e.symm,(Option.some.inj hsv).symm⟩
      ·rename_i e;exact .inr ⟨Ne.symm e,hsv⟩)
   | @lraw d n g q t x sx fr cs u hw hd hdl ho hx hc hp hg hall=>
    rw[wants_sound hrel (hwant.trans hw),if_pos rfl]
    have hgs:(ov V0 rs (fun k=>L.getD k false=true)).slot g=some (.eq u q):=by
     have hnw: ∀k,k<m→(rs k).d≠some g:=by
      intro k hk e
      have hok':ops[k]? =some (ops[k]'(by omega)):=Array.getElem?_eq_getElem (by omega)
      have h6:=hdst k _ hk hok'
      have:=List.all_eq_true.1 hall _ (List.mem_of_getElem? (i:=k) (by rw[Array.getElem?_toList];exact hok'))
      rw[h6,e]at this
      simp at this
     rw[ov_slot_no fun k hk=>hnw k (hLm k hk)]
     rw[hWi j (by omega),ov_slot_no fun k hk=>hnw k (by omega)]at hg
     exact hg
    have hev:ev K.P (W j) o=some (.val true (.raw u)):=by simp only[ev,ho,hx,hc,hp,Option.map_some,mkv]
    rw[←ev_congr hag]at hev
    obtain⟨v,hrun,hv,_⟩:=ev_sound hrel hev
    have hv:Rep w _ v (.raw u):=hv
    have hvu:v=u:=by cases hv;rfl
    subst hvu
    obtain⟨v2,hv2,hr2⟩:=hrel.slot g _ hgs
    refine .inl ?_
    unfold Oper.wp
    rw[hrun]
    refine hnext φ _ _ ?_
    rw[hd,addU_nil]
    exact hrel.put hdl (sv:= .ref q) hr2.symm (show(SV.eq v q).inU _ from hrel.sin g _ hgs) (by funext i;exact addOwn_nil _ _ _) (fun s sv' hsv=>by
     simp only[upd,Option.some.injEq]at hsv
     split at hsv
     ·rename_i e;exact .inl ⟨e.symm,(Option.some.inj hsv).symm⟩
     ·rename_i e;exact .inr ⟨Ne.symm e,hsv⟩)
   | @lmap d n g q m' t x i si fi fr pi b l u hw hd hdl ho hx hm' hi hp hsem hg hall=>
    rw[wants_sound hrel (hwant.trans hw),if_pos rfl]
    have hgs:(ov V0 rs (fun k=>L.getD k false=true)).slot g=some (.eq u q):=by
     have hnw: ∀k,k<m→(rs k).d≠some g:=by
      intro k hk e
      have hok':ops[k]? =some (ops[k]'(by omega)):=Array.getElem?_eq_getElem (by omega)
      have h6:=hdst k _ hk hok'
      have:=List.all_eq_true.1 hall _ (List.mem_of_getElem? (i:=k) (by rw[Array.getElem?_toList];exact hok'))
      rw[h6,e]at this
      simp at this
     rw[ov_slot_no fun k hk=>hnw k (hLm k hk)]
     rw[hWi j (by omega),ov_slot_no fun k hk=>hnw k (by omega)]at hg
     exact hg
    have hag':=hag
    unfold Agree at hag'
    rw[ho]at hag'
    obtain⟨a1,a2⟩:=hag' x (by simp[Op.operands])
    obtain⟨b1,_⟩:=hag' i (by simp[Op.operands])
    have hx':=a1.trans hx
    have hm2:=(a2 _ hx).trans hm'
    have hi':=b1.trans hi
    obtain⟨hrx,_⟩:=get_sound hrel hx'
    have hrx:a.eval x=φ m':=hrx
    have hri:=ff_sound hrel hi' hp
    have hrun:=hsem a w _ (by rw[hrx];exact hrel.own m' _ hm2) hri
    obtain⟨v2,hv2,hr2⟩:=hrel.slot g _ hgs
    refine .inl ?_
    unfold Oper.wp
    rw[hrun]
    refine hnext φ _ _ ?_
    rw[hd,addU_nil]
    exact hrel.put hdl (sv:= .ref q) hr2.symm (show(SV.eq u q).inU _ from hrel.sin g _ hgs) (by funext i;exact addOwn_nil _ _ _) (fun s sv' hsv=>by
     simp only[upd,Option.some.injEq]at hsv
     split at hsv
     ·rename_i e;exact .inl ⟨e.symm,(Option.some.inj hsv).symm⟩
     ·rename_i e;exact .inr ⟨Ne.symm e,hsv⟩)
end Go.Proofs.YtlcobmehnaeebaaGreat
namespace Go.Proofs.YtlcobmehnaeebaaGreat
open Go Go.RowKit
set_option linter.unusedVariables false
set_option linter.unusedSimpArgs false
structure J (K:Ctx)(ops:Array Oper)(dr:Bool)(l:List Oper)(E:St)(R:St→Prop):Prop where
 out:match dr with
  |false=>TO K ops l E R
  |true=> ∃E':St,TD K ops l E.f E.nx E'.f E'.nx∧R E'
section
variable {K:Ctx}{ops:Array Oper}{dr:Bool}{o:Oper}{rest:List Oper}{sl:List (Nat×SV)}{ow:List (Nat×Option Own)}{nx:Nat}{R:St→Prop}{E E':St}{d:Nat}{sv:SV}
theorem J.nil (h:R E):J K ops dr [] E R:=by
 cases dr with
 |false=>exact⟨TO.nil h⟩
 |true=>exact⟨E,.nil,h⟩
theorem f_cons (sl:List (Nat×SV))(ow:List (Nat×Option Own))(nx m:Nat)(adds:List Own):(St.mk ((d,sv)::sl) (pushOw nx adds ow) m).f=⟨fun s=>if s=d then some sv else(St.mk sl ow nx).f.slot s,addOwn (St.mk sl ow nx).f.own nx adds⟩:=by
 refine EnvF.ext (fun s=> ?_) (fun q=> ?_)
 ·simp only[St.f,lk_cons]
  by_cases e:d=s
  ·rw[if_pos e,if_pos e.symm]
  ·rw[if_neg e,if_neg (Ne.symm e)]
 ·exact lk_push ow adds nx q
theorem J.does {adds:List Own}(hg:wants ops (St.mk sl ow nx).f o=some true)(hd:o.dst=some d)(hlt:K.can d=true)(h:Does K (St.mk sl ow nx).f nx o sv adds)(k:J K ops dr rest ⟨(d,sv)::sl,pushOw nx adds ow,nx+adds.length⟩ R):J K ops dr (o::rest) ⟨sl,ow,nx⟩ R:=by
 cases dr with
 |false=>exact⟨TO.does hg hd hlt h k.out⟩
 |true=>
  obtain⟨E',h1,h2⟩:=k.out
  refine⟨E',.does hg hd hlt h (f_cons sl ow nx (nx+adds.length) adds) h1,h2⟩
theorem J.skip (hg:wants ops (St.mk sl ow nx).f o=some false)(hd:o.dst=some d)(hlt:K.can d=true)(k:J K ops dr rest ⟨(d,.tup [])::sl,ow,nx⟩ R):J K ops dr (o::rest) ⟨sl,ow,nx⟩ R:=by
 cases dr with
 |false=>exact⟨TO.skip hg hd hlt k.out⟩
 |true=>
  obtain⟨E',h1,h2⟩:=k.out
  refine⟨E',.skip hg hd hlt ?_ h1,h2⟩
  refine EnvF.ext (fun s=> ?_) (fun q=>rfl)
  simp only[St.f,lk_cons]
  by_cases e:d=s
  ·rw[if_pos e,if_pos e.symm]
  ·rw[if_neg e,if_neg (Ne.symm e)]
theorem J.gb {b:Bool}{j dj:Nat}{want f:Bool}(hg:o.guard=some (j,want))(hj:(ops[j]?).bind (·.dst)=some dj)(hs:lk sl dj=some (.val f (.bool b)))
  (kt:b=true→J K ops dr (o::rest) ⟨(dj,.val f (.bool true))::sl,ow,nx⟩ R) (kf:b=false→J K ops dr (o::rest) ⟨(dj,.val f (.bool false))::sl,ow,nx⟩ R):J K ops dr (o::rest) ⟨sl,ow,nx⟩ R:=by
 have hf: ∀b',b=b'→(St.mk ((dj,.val f (.bool b'))::sl) ow nx).f=(St.mk sl ow nx).f:=by
  rintro b' rfl
  refine EnvF.ext (fun s=> ?_) (fun q=>rfl)
  simp only[St.f,lk_cons]
  by_cases e:dj=s
  ·subst e;rw[if_pos rfl,hs]
  ·rw[if_neg e]
 have key: ∀b',b=b'→J K ops dr (o::rest) ⟨(dj,.val f (.bool b'))::sl,ow,nx⟩ R→J K ops dr (o::rest) ⟨sl,ow,nx⟩ R:=by
  intro b' e h
  cases dr with
  |false=>
   refine⟨TO.sub (fun a w hr=> ?_) h.out⟩
   obtain⟨φ,hφ⟩:=hr
   exact⟨φ,by rw[hf b' e];exact hφ⟩
  |true=>
   obtain⟨E',h1,h2⟩:=h.out
   refine⟨E',?_,h2⟩
   have h1':TD K ops (o::rest) (St.mk ((dj,.val f (.bool b'))::sl) ow nx).f nx E'.f E'.nx:=h1
   rw[hf b' e]at h1'
   exact h1'
 cases b with
 |true=>exact key true rfl (kt rfl)
 |false=>exact key false rfl (kf rfl)
theorem J.g {p:Prop}[Decidable p]{j dj:Nat}{want f:Bool}(hg:o.guard=some (j,want))(hj:(ops[j]?).bind (·.dst)=some dj)(hs:lk sl dj=some (.val f (.bool (decide p))))
  (kt:p→J K ops dr (o::rest) ⟨(dj,.val f (.bool true))::sl,ow,nx⟩ R) (kf: ¬p→J K ops dr (o::rest) ⟨(dj,.val f (.bool false))::sl,ow,nx⟩ R):J K ops dr (o::rest) ⟨sl,ow,nx⟩ R:=
 J.gb hg hj hs (fun h=>kt (of_decide_eq_true h)) (fun h=>kf (of_decide_eq_false h))
theorem J.e (hg:wants ops (St.mk sl ow nx).f o=some true)(hd:o.dst=some d)(hlt:K.can d=true)(he:ev K.P (St.mk sl ow nx).f o=some sv)(k:J K ops dr rest ⟨(d,sv)::sl,ow,nx⟩ R):J K ops dr (o::rest) ⟨sl,ow,nx⟩ R:=
 .does hg hd hlt (.ev he) k
theorem J.i {t:TypeId}{x i:Operand}{sx:SV}{fr fi:Bool}{rows:List (List PV)}{r:List PV}{k:IntKind}{m:Int}{e:TypeId}{inf:TypeInfo}(ho:o.op= .indexAddr t x i)(hg:wants ops (St.mk sl ow nx).f o=some true)(hd:o.dst=some d)(hlt:K.can d=true)
  (hx:(St.mk sl ow nx).f.get x=some sx) (hr:sx.ff=some (fr,.sl rows)) (hi:(St.mk sl ow nx).f.get i=some (.val fi (.int k m))) (hu:K.P.underlying t=some (.slice e)) (hinf:K.P.info? e=some inf)
  (h0:0≤m) (hrow:rows[m.toNat]? =some r) (hl:r.length=inf.size) (q:J K ops dr rest ⟨(d,.fptr fr r)::sl,ow,nx⟩ R):J K ops dr (o::rest) ⟨sl,ow,nx⟩ R:=
 .does hg hd hlt (.idxf ho hx hr hi hu hinf h0 hrow hl) q
theorem J.io {t:TypeId}{x i:Operand}{p:Nat}{fr fi:Bool}{rows:List (List PV)}{k:IntKind}{m:Int}{e' e:TypeId}{sz:Nat}{inf:TypeInfo}(ho:o.op= .indexAddr t x i)(hg:wants ops (St.mk sl ow nx).f o=some true)(hd:o.dst=some d)(hlt:K.can d=true)
  (hx:(St.mk sl ow nx).f.get x=some (.ref p)) (hp:(St.mk sl ow nx).f.own p=some (.sl e' sz fr rows)) (hi:(St.mk sl ow nx).f.get i=some (.val fi (.int k m))) (hu:K.P.underlying t=some (.slice e)) (hinf:K.P.info? e=some inf)
  (h0:0≤m) (hm:m.toNat<rows.length) (hl:inf.size=sz) (q:J K ops dr rest ⟨(d,.optr p m.toNat 0 sz)::sl,ow,nx⟩ R):J K ops dr (o::rest) ⟨sl,ow,nx⟩ R:=
 .does hg hd hlt (.idxo ho hx hp hi hu hinf h0 hm hl) q
theorem J.s {t:TypeId}{x:Operand}{lo hi:Option Operand}{sx:SV}{fr fl fh:Bool}{rows:List (List PV)}{e:TypeId}{inf:TypeInfo}{l h:Int}{kl kh:IntKind}(ho:o.op= .slice t x lo hi none)(hg:wants ops (St.mk sl ow nx).f o=some true)(hd:o.dst=some d)(hlt:K.can d=true)
  (hx:(St.mk sl ow nx).f.get x=some sx) (hr:sx.ff=some (fr,.sl rows)) (hu:K.P.underlying t=some (.slice e)) (hinf:K.P.info? e=some inf) (hlo:lo=none∧l=0∨∃y,lo=some y∧(St.mk sl ow nx).f.get y=some (.val fl (.int kl l)))
  (hhi:hi=none∧h=rows.length∨∃y,hi=some y∧(St.mk sl ow nx).f.get y=some (.val fh (.int kh h))) (h0:0≤l) (h1:l≤h) (h2:h≤rows.length) (h3: ∀r∈rows,r.length=inf.size)
  (q:J K ops dr rest ⟨(d,.val fr (.sl ((rows.take h.toNat).drop l.toNat)))::sl,ow,nx⟩ R):J K ops dr (o::rest) ⟨sl,ow,nx⟩ R:=
 .does hg hd hlt (.slf ho hx hr hu hinf hlo hhi h0 h1 h2 h3) q
theorem J.bx {t:TypeId}{x:Operand}{sx:SV}{fr:Bool}{p:PV}(ho:o.op= .box t x)(hg:wants ops (St.mk sl ow nx).f o=some true)(hd:o.dst=some d)(hlt:K.can d=true)(hx:(St.mk sl ow nx).f.get x=some sx)(hp:sx.ff=some (fr,p))
  (q:J K ops dr rest ⟨(d,.optr nx 0 0 0)::sl,(nx,some (.box fr p.cells))::ow,nx+1⟩ R):J K ops dr (o::rest) ⟨sl,ow,nx⟩ R:=
 .does hg hd hlt (.box ho hx hp) q
theorem J.bv {t e:TypeId}{len:Nat}{fr:Bool}{parts:Array (Nat×Operand)}{rows:List (List PV)}{inf:TypeInfo}{z:Value}(ho:o.op= .buildSlice t len parts)(hg:wants ops (St.mk sl ow nx).f o=some true)(hd:o.dst=some d)(hlt:K.can d=true)
  (hu:K.P.underlying t=some (.slice e)) (hinf:K.P.info? e=some inf) (hz:inf.zero=some z) (hzs:z.cells.size=inf.size) (hr:rowsPV (St.mk sl ow nx).f inf.size 0 parts.toList=some (fr,rows)) (hl:rows.length=len) (hm:Nat.ble (len*inf.size) 16777216=true) (hm2:Nat.ble len 16777216=true)
  (q:J K ops dr rest ⟨(d,.val fr (.sl rows))::sl,ow,nx⟩ R):J K ops dr (o::rest) ⟨sl,ow,nx⟩ R:=
 .does hg hd hlt (.bsv ho hu hinf hz hzs hr hl (Nat.le_of_ble_eq_true hm) (Nat.le_of_ble_eq_true hm2)) q
theorem J.bo {t e:TypeId}{len:Nat}{fr:Bool}{parts:Array (Nat×Operand)}{rows:List (List PV)}{inf:TypeInfo}{z:Value}(ho:o.op= .buildSlice t len parts)(hg:wants ops (St.mk sl ow nx).f o=some true)(hd:o.dst=some d)(hlt:K.can d=true)
  (hu:K.P.underlying t=some (.slice e)) (hinf:K.P.info? e=some inf) (hz:inf.zero=some z) (hzs:z.cells.size=inf.size) (hr:rowsPV (St.mk sl ow nx).f inf.size 0 parts.toList=some (fr,rows)) (hl:rows.length=len) (hm:Nat.ble (len*inf.size) 16777216=true) (hm2:Nat.ble len 16777216=true)
  (q:J K ops dr rest ⟨(d,.ref nx)::sl,(nx,some (.sl e inf.size fr rows))::ow,nx+1⟩ R):J K ops dr (o::rest) ⟨sl,ow,nx⟩ R:=
 .does hg hd hlt (.bso ho hu hinf hz hzs hr hl (Nat.le_of_ble_eq_true hm) (Nat.le_of_ble_eq_true hm2)) q
theorem J.c {x:Operand}{args:Array Operand}{tys:Array TypeId}{f:FuncId}{first caps ps:List PV}{al fx:Bool}{res:List RV}(ho:o.op= .call { callee:= .value x,args:=args,argTypes:=tys })(hg:wants ops (St.mk sl ow nx).f o=some true)(hd:o.dst=some d)(hlt:K.can d=true)
  (hx:(St.mk sl ow nx).f.get x=some (.val fx (.fn (.func f) first caps))) (hspec:Spec K.P f al (first++ps++caps) res) (ha:argPVs (St.mk sl ow nx).f al args.toList=some ps)
  (q:J K ops dr rest ⟨(d,RV.one (!al) nx res)::sl,pushOw nx (RV.owns (!al) res) ow,nx+(RV.owns (!al) res).length⟩ R):J K ops dr (o::rest) ⟨sl,ow,nx⟩ R:=
 .does hg hd hlt (.call ho hx ha hspec) q
theorem J.sub (h: ∀a w,Rel K E a w→Rel K E' a w)(k:J K ops false rest E' R):J K ops false rest E R:=⟨TO.sub h k.out⟩
theorem J.a {args:Array Operand}{tys:Array TypeId}{s y:Operand}{t e:TypeId}{q sz:Nat}{fr fy:Bool}{rows rows2:List (List PV)}{sy:SV}{inf:TypeInfo}{z:Value}
  (ho:o.op= .call { callee:= .builtin .append,args:=args,argTypes:=tys }) (ha:args.toList=[s,y]) (ht:tys.toList=[t,t]) (hg:wants ops (St.mk sl ow nx).f o=some true) (hd:o.dst=some d) (hlt:K.can d=true)
  (hs:(St.mk sl ow nx).f.get s=some (.ref q)) (hq:(St.mk sl ow nx).f.own q=some (.sl e sz fr rows)) (hy:(St.mk sl ow nx).f.get y=some sy) (hp:(St.mk sl ow nx).f.pvf sy=some (fy,.sl rows2))
  (hu:K.P.underlying t=some (.slice e)) (hi:K.P.info? e=some inf) (hsz:inf.size=sz) (hz:inf.zero=some z) (hzs:z.cells.size=sz) (h0:Nat.blt 0 sz=true) (hb1:Nat.ble 1 inf.bytes=true)
  (hl2: ∀r∈rows2,r.length=sz) (hby:(rows.length+rows2.length)*inf.bytes≤140737488355328)
  (k:J K ops false rest ⟨(d,.ref nx)::sl,(nx,some (.sl e sz (fr&&fy) (rows++rows2)))::(q,none)::ow,nx+1⟩ R):J K ops false (o::rest) ⟨sl,ow,nx⟩ R:=
 ⟨TO.a ho ha ht hg hd hlt hs hq hy hp hu hi hsz hz hzs (by simpa[Nat.blt_eq]using h0) hl2 hby (Nat.le_of_ble_eq_true hb1) k.out⟩
theorem J.an {args:Array Operand}{tys:Array TypeId}{s y:Operand}{t e:TypeId}{fy:Bool}{rows2:List (List PV)}{sy:SV}{inf:TypeInfo}{z:Value}
  (ho:o.op= .call { callee:= .builtin .append,args:=args,argTypes:=tys }) (ha:args.toList=[s,y]) (ht:tys.toList=[t,t]) (hg:wants ops (St.mk sl ow nx).f o=some true) (hd:o.dst=some d) (hlt:K.can d=true)
  (hs:(St.mk sl ow nx).f.get s=some .nilsl) (hy:(St.mk sl ow nx).f.get y=some sy) (hp:(St.mk sl ow nx).f.pvf sy=some (fy,.sl rows2))
  (hu:K.P.underlying t=some (.slice e)) (hi:K.P.info? e=some inf) (hz:inf.zero=some z) (hzs:z.cells.size=inf.size) (h0:Nat.blt 0 inf.size=true) (hb1:Nat.ble 1 inf.bytes=true)
  (hl2: ∀r∈rows2,r.length=inf.size) (hby:rows2.length*inf.bytes≤140737488355328)
  (k:J K ops false rest ⟨(d,.ref nx)::sl,(nx,some (.sl e inf.size fy rows2))::ow,nx+1⟩ R):J K ops false (o::rest) ⟨sl,ow,nx⟩ R:=
 ⟨TO.an ho ha ht hg hd hlt hs hy hp hu hi hz hzs (by simpa[Nat.blt_eq]using h0) hl2 hby (Nat.le_of_ble_eq_true hb1) k.out⟩
theorem J.w {t:TypeId}{x y:Operand}{q i off st:Nat}{c c':Own}{sy:SV}{fp:Bool}{p:PV}{inf:TypeInfo}
  (ho:o.op= .store t x y) (hg:wants ops (St.mk sl ow nx).f o=some true) (hd:o.dst=none) (hx:(St.mk sl ow nx).f.get x=some (.optr q i off st)) (hq:(St.mk sl ow nx).f.own q=some c) (hy:(St.mk sl ow nx).f.get y=some sy) (hp:sy.ff=some (fp,p))
  (hi:K.P.info? t=some inf) (hs:p.cells.length=inf.size) (hc:c.put i off st fp p.cells=some c') (k:J K ops false rest ⟨sl,(q,some c')::ow,nx⟩ R):J K ops false (o::rest) ⟨sl,ow,nx⟩ R:=
 ⟨TO.w ho hg hd hx hq hy hp hi hs hc k.out⟩
variable {Q:Exit→St→Prop}{id:Nat}
theorem T.r (h:J K ops false ops.toList E (Q .normal)):T K (.region id ops false) E Q:=T.region h.out
theorem nr_in {q:Nat}{sv:SV}(h:nr q (some sv)=true)(hsc:sv.inU (fun _=>True)):sv.inU (· ≠q):=by
 cases sv with
 |ref o=>exact(by simpa[nr]using h:o≠q)
 |optr o i off st=>exact(by simpa[nr]using h:o≠q)
 |fref f o=>exact(by simpa[nr]using h:o≠q)
 |eq f o=>exact(by simpa[nr]using h:o≠q)
 |tup l=>
  intro s hs
  have h2:=List.all_eq_true.1 (show(l.all _)=true from h) s hs
  have h3:=hsc s hs
  cases s with
  |ref o=>exact(by simpa using h2:o≠q)
  |optr o i off st=>exact(by simpa using h2:o≠q)
  |fref f o=>exact(by simpa using h2:o≠q)
  |eq f o=>exact(by simpa using h2:o≠q)
  |tup l=>exact h3
  |_=>trivial
 |_=>trivial
theorem T.rdw (m:Nat)(hmix:K.P.follows .mixedOrders=true)(hok:okW ops m=true)(hm:Nat.ble m ops.size=true)(h:J K ops true (ops.toList.take m) E (fun E'=>chk E.nx E.f E'.f ops m=true∧J K ops false (ops.toList.drop m) E' (Q .normal))):T K (.region id ops true) E Q:=by
 refine⟨fun a w hr=> ?_⟩
 obtain⟨φ,hφ⟩:=hr
 obtain⟨E',hTD,hchk,hJ⟩:=h.out
 have hm':=Nat.le_of_ble_eq_true hm
 have hlen:(ops.toList.take m).length=m:=by simp;omega
 obtain⟨rs,W,h0,h1,h2,h3,h4,h5⟩:=hTD.recs
 rw[hlen]at h1 h3 h4
 have hokd:=okW_spec hok
 have h5': ∀(i:Nat) o,i<m→ops[i]? =some o→RO K ops (W i) o (rs i):=fun i o hi ho=>h5 i o (by rw[List.getElem?_take,if_pos hi];simpa using ho)
 have hdst: ∀(i:Nat) o,i<m→ops[i]? =some o→o.dst=(rs i).d:=by
  intro i o hi ho
  have hr:=h5' i o hi ho
  generalize rs i=r at hr⊢
  cases hr with
  |does _ hd _ _=>exact hd
  |skip _ hd _=>exact hd
  |sto _ hd _=>exact hd
  |app _ hd _ _=>exact hd
  |appf _ hd _ _ _=>exact hd
  |lraw _ hd _ _ _ _ _ _ _=>exact hd
  |lmap _ hd _ _ _ _ _ _ _ _ _=>exact hd
 have hone: ∀i j s,i<m→j<m→(rs i).d=some s→(rs j).d=some s→i=j:=by
  intro i j s hi hj e e2
  by_cases hij:i=j
  ·exact hij
  ·have hoi:ops[i]? =some (ops[i]'(by omega)):=Array.getElem?_eq_getElem (by omega)
   have hoj:ops[j]? =some (ops[j]'(by omega)):=Array.getElem?_eq_getElem (by omega)
   exact absurd ((hdst j _ hj hoj).trans e2) ((hokd.free j _ hoj hj i _ hi hoi hij).1 s ((hdst i _ hi hoi).trans e))
 have hslot: ∀i,i≤m→∀s,((W i).slot s=E.f.slot s∧∀k,k<i→(rs k).d≠some s)∨∃k,k<i∧(rs k).d=some s∧(W i).slot s=some (rs k).sv:=by
  intro i
  induction i with
  |zero=>intro _ s;exact .inl ⟨by rw[h0],fun k hk=>absurd hk (Nat.not_lt_zero _)⟩
  |succ i ih=>
   intro hi s
   rw[(h4 i (by omega)).1]
   simp only[upd]
   by_cases e:(rs i).d=some s
   ·exact .inr ⟨i,Nat.lt_succ_self i,e,by rw[if_pos e]⟩
   ·rw[if_neg e]
    rcases ih (by omega) s with ⟨h6,h7⟩|⟨k,hk,h6,h7⟩
    ·exact .inl ⟨h6,fun k hk=>by
      by_cases e2:k=i
      ·subst e2;exact e
      ·exact h7 k (by omega)⟩
    ·exact .inr ⟨k,by omega,h6,h7⟩
 have htwo: ∀i,i≤m→∀s,(W i).slot s=E.f.slot s∨(W i).slot s=E'.f.slot s:=by
  intro i hi s
  rcases hslot i hi s with ⟨h6,_⟩|⟨k,hk,h6,h7⟩
  ·exact .inl h6
  ·refine .inr ?_
   rcases hslot m (Nat.le_refl _) s with ⟨_,h9⟩|⟨k',hk',h9,h10⟩
   ·exact absurd h6 (h9 k (by omega))
   ·rw[←h1,h10,h7,hone k k' s (by omega) hk' h6 h9]
 have hscope: ∀i,i≤m→∀s sv,(W i).slot s=some sv→sv.inU (fun _=>True):=by
  intro i
  induction i with
  |zero=>intro _ s sv h;rw[h0]at h;exact SV.in_mono (hφ.sin s sv h) fun _ _=>trivial
  |succ i ih=>
   intro hi s sv h
   have hoi:ops[i]? =some (ops[i]'(by omega)):=Array.getElem?_eq_getElem (by omega)
   have hr:=h5' i _ (by omega) hoi
   have hprev:=ih (by omega)
   rw[(h4 i (by omega)).1]at h
   generalize rs i=r at hr h
   cases hr with
   | @does d n sv' ad hw hd hdl hdo=>
    simp only[upd,Option.some.injEq]at h
    split at h
    ·obtain rfl:=Option.some.inj h
     exact SV.in_mono (hdo.in_ hprev) fun _ _=>trivial
    ·exact hprev s sv h
   | @skip d n hw hd hdl=>
    simp only[upd,Option.some.injEq]at h
    split at h
    ·obtain rfl:=Option.some.inj h
     intro s hs;cases hs
    ·exact hprev s sv h
   | @sto n q c hw hd hdo=>
    simp[upd]at h
    exact hprev s sv h
   | @app d n src c hw hd hdl hdo=>
    simp only[upd,Option.some.injEq]at h
    split at h
    ·obtain rfl:=Option.some.inj h;trivial
    ·exact hprev s sv h
   | @appf d n q sz e fr rows hw hd hdl hMn hdo=>
    simp only[upd,Option.some.injEq]at h
    split at h
    ·obtain rfl:=Option.some.inj h;trivial
    ·exact hprev s sv h
   | @lraw d n g q t x sx fr cs u hw hd hdl ho hx hc hp hg hall=>
    simp only[upd,Option.some.injEq]at h
    split at h
    ·obtain rfl:=Option.some.inj h;trivial
    ·exact hprev s sv h
   | @lmap d n g q m' t x i si fi fr pi b l u hw hd hdl ho hx hm' hi hp hsem hg hall=>
    simp only[upd,Option.some.injEq]at h
    split at h
    ·obtain rfl:=Option.some.inj h;trivial
    ·exact hprev s sv h
 have htg: ∀k q c,k<m→(rs k).wr=some (q,c)→∃o l,ops[k]? =some o∧tgs E.f E'.f o.op=some l∧q∈l:=by
  intro k q c hk hw
  have hok':ops[k]? =some (ops[k]'(by omega)):=Array.getElem?_eq_getElem (by omega)
  have hr:=h5' k _ hk hok'
  have h6:=List.all_eq_true.1 hchk k (List.mem_range.2 hk)
  rw[hok']at h6
  generalize rs k=r at hr hw
  cases hr with
  |does _ _ _ _=>cases hw
  |skip _ _ _=>cases hw
  |lraw _ _ _ _ _ _ _ _ _=>cases hw
  |lmap _ _ _ _ _ _ _ _ _ _ _=>cases hw
  |sto _ _ hdo=>
   cases hw
   cases hdo with
   | @mk t x y i off st c sy fp p inf hop hx _ _ _ _ _ _=>
    cases x with
    |tmp tx=>
     have hx:(W k).slot tx=some (.optr q i off st):=hx
     refine⟨_,_,hok',by rw[hop];rfl,?_⟩
     rcases htwo k (by omega) tx with e|e
     ·rw[←e,hx];exact List.mem_append_left _ (.head _)
     ·rw[←e,hx];exact List.mem_append_right _ (.head _)
    |_=>simp[hop,tgs]at h6
  |app _ _ _ hdo=>
   cases hdo with
   |nil _ _ _ _ _ _ _ _ _ _ _ _ _ _=>cases hw
   | @own args tys s y t e q sz fr fy rows rows2 sy inf z hop ha ht hx=>
    cases hw
    cases s with
    |tmp tx=>
     have hx:(W k).slot tx=some (.ref q):=hx
     refine⟨_,_,hok',by rw[hop];simp only[tgs,ha];rfl,?_⟩
     rcases htwo k (by omega) tx with e|e
     ·rw[←e,hx];exact List.mem_append_left _ (.head _)
     ·rw[←e,hx];exact List.mem_append_right _ (.head _)
    |const v=>
     simp only[EnvF.get,cSV]at hx
     split at hx
     ·cases hx
     ·obtain⟨p,_,hx⟩:=Option.map_eq_some_iff.1 hx;cases hx
    |func f=>simp[EnvF.get]at hx
    |global g=>simp[EnvF.get]at hx
  |appf _ _ _ _ hdo=>
   cases hdo with
   | @own args tys s y t e q sz fr fy rows rows2 sy inf z hop ha ht hx=>
    cases hw
    cases s with
    |tmp tx=>
     have hx:(W k).slot tx=some (.ref q):=hx
     refine⟨_,_,hok',by rw[hop];simp only[tgs,ha];rfl,?_⟩
     rcases htwo k (by omega) tx with e|e
     ·rw[←e,hx];exact List.mem_append_left _ (.head _)
     ·rw[←e,hx];exact List.mem_append_right _ (.head _)
    |const v=>
     simp only[EnvF.get,cSV]at hx
     split at hx
     ·cases hx
     ·obtain⟨p,_,hx⟩:=Option.map_eq_some_iff.1 hx;cases hx
    |func f=>simp[EnvF.get]at hx
    |global g=>simp[EnvF.get]at hx
 have hck: ∀k q c,k<m→(rs k).wr=some (q,c)→∃l,chk1 E.nx E.f E'.f ops m k l=true∧q∈l:=by
  intro k q c hk hw
  obtain⟨o,l,ho,hl,hq⟩:=htg k q c hk hw
  have h6:=List.all_eq_true.1 hchk k (List.mem_range.2 hk)
  simp only[ho,hl]at h6
  exact⟨l,h6,hq⟩
 refine wp_region_any hmix ?_
 have hw:RelW K E.f (· <E.nx) φ a { w with drawn:=w.drawn+1 }:=hφ.world ⟨rfl,rfl,rfl,Nat.le_refl _,fun _ _=>rfl⟩
 refine draw_any hokd hm' h0 h1 h2 h3 h4 h5' ?_ ?_ hw.sin (fun a' w' φ' hr'=> ?_) ops.size (Array.replicate ops.size false) φ a _ (by simp) ?_ ?_ ?_ ?_
 ·intro k j q c hk hj hjk hwr hq1 hq2
  obtain⟨l,h6,hq⟩:=hck k q c hk hwr
  have h7:=List.all_eq_true.1 h6 q hq
  simp only[Bool.and_eq_true,Bool.or_eq_true]at h7
  have hmn: ∀i,i≤m→(rs 0).n≤(rs i).n:=by
   intro i
   induction i with
   |zero=>intro _;exact Nat.le_refl _
   |succ i ih=>intro hi;have:=(h4 i (by omega)).2;have:=ih (by omega);omega
  have hE:E.nx≤(rs j).n:=by rw[←h2];exact hmn j (by omega)
  rcases h7.1 with h8|h8
  ·have:q<E.nx:=by simpa[Nat.blt_eq]using h8
   omega
  ·have h9:=List.all_eq_true.1 h8 j (List.mem_range.2 hjk)
   have hoj:ops[j]? =some (ops[j]'(by omega)):=Array.getElem?_eq_getElem (by omega)
   simp only[hoj,Bool.or_eq_true]at h9
   rcases h9 with h9|h9
   ·unfold ordered at h9
    rwa[if_pos hjk]at h9
   ·exfalso
    have hr:=h5' j _ hj hoj
    have hdj:=hdst j _ hj hoj
    rw[hdj]at h9
    have hsj: ∀s,(rs j).d=some s→E'.f.slot s=some (rs j).sv:=fun s hs=>by
     rcases hslot m (Nat.le_refl _) s with ⟨_,h10⟩|⟨k',hk',h10,h11⟩
     ·exact absurd hs (h10 j hj)
     ·rw[←h1,h11,hone k' j s hk' hj h10 hs]
    generalize rs j=r at hr h9 hsj hq1 hq2 hE
    cases hr with
    |does _ _ _ hdo=>
     simp only[hsj _ rfl]at h9
     rw[hdo.noAd hE h9]at hq2
     dsimp only at hq1 hq2;simp at hq2;omega
    |skip _ _ _=>dsimp only at hq1 hq2;simp at hq2;omega
    |sto _ _ _=>dsimp only at hq1 hq2;simp at hq2;omega
    |app _ _ _ _=>
     simp only[hsj _ rfl]at h9
     have h9:Nat.blt _ _=true:=h9
     rw[Nat.blt_eq]at h9
     dsimp only at hE;omega
    |appf _ _ _ _ _=>dsimp only at hq1 hq2;simp at hq2;omega
    |lraw _ _ _ _ _ _ _ _ _=>dsimp only at hq1 hq2;simp at hq2;omega
    |lmap _ _ _ _ _ _ _ _ _ _ _=>dsimp only at hq1 hq2;simp at hq2;omega
 ·intro k j hk hj hkj q c o hwr ho
  obtain⟨l,h6,hq⟩:=hck k q c hk hwr
  have h7:=List.all_eq_true.1 h6 q hq
  simp only[Bool.and_eq_true]at h7
  have h7:=List.all_eq_true.1 h7.2 j (List.mem_range.2 hj)
  simp only[Bool.or_eq_true,beq_iff_eq,ho]at h7
  rcases h7 with (h7|h7)|h7
  ·exact absurd h7.symm hkj
  ·exact .inl h7
  ·refine .inr fun z hz sv hsv=> ?_
   have h8:=List.all_eq_true.1 h7 z (by simpa using hz)
   cases z with
   |tmp s=>
    simp only[Bool.and_eq_true]at h8
    have hsv':(W j).slot s=some sv:=hsv
    have hin:=hscope j (by omega) s sv hsv'
    rcases htwo j (by omega) s with e|e
    ·rw[e]at hsv';rw[hsv']at h8;exact nr_in h8.1 hin
    ·rw[e]at hsv';rw[hsv']at h8;exact nr_in h8.2 hin
   |const v=>
    simp only[EnvF.get,cSV]at hsv
    split at hsv
    ·obtain rfl:=Option.some.inj hsv;trivial
    ·obtain⟨p,_,rfl⟩:=Option.map_eq_some_iff.1 hsv;trivial
   |func f=>simp only[EnvF.get,Option.some.injEq]at hsv;subst hsv;trivial
   |global g=>simp[EnvF.get]at hsv
 ·have hto:=hJ.out.out a' w' (lift K Q) ⟨φ',hr'⟩ fun E2 a2 w2 hq hr2=>⟨rfl,E2,hq,hr2⟩
  have e:=wpOps_eq_wpList (P:=K.P) (ops:=ops) (Q:=lift K Q) (ops.toList.drop m) m (fun j=>by simp)
  rw[show(ops.toList.drop m).length=ops.size-m by simp]at e
  rw[e]
  exact hto
 ·intro k hk
  simp[Array.getD]at hk
 ·intro k o hk
  simp[Array.getD]at hk
 ·unfold open_
  have:=List.length_filter_le (fun i=> !(Array.replicate ops.size false).getD i true) (List.range ops.size)
  simpa using this
 ·have e1:ov E.f rs (fun k=>(Array.replicate ops.size false).getD k false=true)=E.f:=by
   refine(ov_congr fun k=> ?_).trans (ov_none (V0:=E.f) (rs:=rs))
   simp[Array.getD]
  have e2:(fun q=>q<E.nx∨∃k,(Array.replicate ops.size false).getD k false=true∧(rs k).n≤q∧q<(rs k).n+(rs k).ad.length)=(· <E.nx):=by
   funext q
   simp only[eq_iff_iff]
   constructor
   ·rintro(h|⟨k,hk,_⟩)
    ·exact h
    ·simp[Array.getD]at hk
   ·exact .inl
  rw[e1,e2]
  exact hw
theorem T.rdm (m:Nat)(hmix:K.P.follows .mixedOrders=true)(hok:okD ops m=true)(hm:Nat.ble m ops.size=true)(h:J K ops true (ops.toList.take m) E (fun E'=>J K ops false (ops.toList.drop m) E' (Q .normal))):T K (.region id ops true) E Q:=by
 have hok':okW ops m=true:=by simp only[okD,Bool.and_eq_true]at hok;exact hok.1
 refine T.rdw m hmix hok' hm ⟨?_⟩
 obtain⟨E',h1,h2⟩:=h.out
 exact⟨E',h1,chk_plain hok,h2⟩
theorem J.wd {t:TypeId}{x y:Operand}{q i off st:Nat}{c c':Own}{sy:SV}{fp:Bool}{p:PV}{inf:TypeInfo}
  (ho:o.op= .store t x y) (hg:wants ops (St.mk sl ow nx).f o=some true) (hd:o.dst=none) (hx:(St.mk sl ow nx).f.get x=some (.optr q i off st)) (hq:(St.mk sl ow nx).f.own q=some c) (hy:(St.mk sl ow nx).f.get y=some sy) (hp:sy.ff=some (fp,p))
  (hi:K.P.info? t=some inf) (hs:p.cells.length=inf.size) (hc:c.put i off st fp p.cells=some c') (k:J K ops true rest ⟨sl,(q,some c')::ow,nx⟩ R):J K ops true (o::rest) ⟨sl,ow,nx⟩ R:=by
 obtain⟨E',h1,h2⟩:=k.out
 refine⟨E',TD.sto hg hd (.mk ho hx hq hy hp hi hs hc) ?_ h1,h2⟩
 refine EnvF.ext (fun s=>rfl) (fun j=> ?_)
 simp only[St.f,lk_cons]
 by_cases e:q=j
 ·rw[if_pos e,if_pos e.symm];rfl
 ·rw[if_neg e,if_neg (Ne.symm e)]
theorem T.rd (hmix:K.P.follows .mixedOrders=true)(hok:okD ops ops.size=true)(h:J K ops true ops.toList E (Q .normal)):T K (.region id ops true) E Q:=by
 refine T.rdm ops.size hmix hok (Nat.ble_eq_true_of_le (Nat.le_refl _)) ?_
 rw[←Array.length_toList,List.take_length,List.drop_length]
 obtain⟨E',h1,h2⟩:=h.out
 exact⟨E',h1,.nil h2⟩
theorem J.ad {args:Array Operand}{tys:Array TypeId}{s y:Operand}{t e:TypeId}{q sz:Nat}{fr fy:Bool}{rows rows2:List (List PV)}{sy:SV}{inf:TypeInfo}{z:Value}
  (ho:o.op= .call { callee:= .builtin .append,args:=args,argTypes:=tys }) (ha:args.toList=[s,y]) (ht:tys.toList=[t,t]) (hg:wants ops (St.mk sl ow nx).f o=some true) (hd:o.dst=some d) (hlt:K.can d=true)
  (hs:(St.mk sl ow nx).f.get s=some (.ref q)) (hq:(St.mk sl ow nx).f.own q=some (.sl e sz fr rows)) (hy:(St.mk sl ow nx).f.get y=some sy) (hp:(St.mk sl ow nx).f.pvf sy=some (fy,.sl rows2))
  (hu:K.P.underlying t=some (.slice e)) (hi:K.P.info? e=some inf) (hsz:inf.size=sz) (hz:inf.zero=some z) (hzs:z.cells.size=sz) (h0:Nat.blt 0 sz=true) (hb1:Nat.ble 1 inf.bytes=true) (hqn:Nat.blt q nx=true)
  (hl2: ∀r∈rows2,r.length=sz) (hby:(rows.length+rows2.length)*inf.bytes≤140737488355328)
  (k:J K ops true rest ⟨(d,.ref nx)::sl,(nx,some (.sl e sz (fr&&fy) (rows++rows2)))::(q,none)::ow,nx+1⟩ R):J K ops true (o::rest) ⟨sl,ow,nx⟩ R:=by
 obtain⟨E',h1,h2⟩:=k.out
 refine⟨E',?_,h2⟩
 have hro:RO K ops (St.mk sl ow nx).f o ⟨some d,.ref nx,[.sl e sz (fr&&fy) (rows++rows2)],nx,some (q,none)⟩:= .app (src:=some q) hg hd hlt (.own ho ha ht hs hq hy hp hu hi hsz hz hzs (by simpa[Nat.blt_eq]using h0) (Nat.le_of_ble_eq_true hb1) hl2 hby)
 refine TD.step (r:=⟨some d,.ref nx,[.sl e sz (fr&&fy) (rows++rows2)],nx,some (q,none)⟩) hro ?_
 have e1:upd (St.mk sl ow nx).f ⟨some d,.ref nx,[.sl e sz (fr&&fy) (rows++rows2)],nx,some (q,none)⟩=(St.mk ((d,.ref nx)::sl) ((nx,some (.sl e sz (fr&&fy) (rows++rows2)))::(q,none)::ow) (nx+1)).f:=by
  have hqn:q<nx:=by simpa[Nat.blt_eq]using hqn
  refine EnvF.ext (fun s=> ?_) (fun i=> ?_)
  ·simp only[upd,St.f,lk_cons,Option.some.injEq]
  ·simp only[upd,St.f,lk_cons,addOwn,List.length_singleton]
   by_cases e1:i=q
   ·subst e1;rw[if_pos rfl,if_neg (by omega),if_pos rfl];rfl
   ·rw[if_neg e1]
    by_cases e2:i=nx
    ·subst e2;rw[if_pos (by omega),if_pos rfl];simp
    ·rw[if_neg (by omega),if_neg (Ne.symm e2),if_neg (Ne.symm e1)]
 rw[e1]
 exact h1
theorem J.lr (g:Nat){t:TypeId}{x:Operand}{sx:SV}{fr:Bool}{cs:List PV}{u:Value}{q:Nat}(ho:o.op= .load t x)(hg:wants ops (St.mk sl ow nx).f o=some true)(hd:o.dst=some d)(hlt:K.can d=true)(hx:(St.mk sl ow nx).f.get x=some sx)
  (hc:(St.mk sl ow nx).f.cellsAt sx=some (fr,cs)) (hp:loadPV K.P t cs=some (.raw u)) (hgs:lk sl g=some (.eq u q)) (hall:(ops.toList.all fun o'=>o'.dst != some g)=true) (k:J K ops true rest ⟨(d,.ref q)::sl,ow,nx⟩ R):J K ops true (o::rest) ⟨sl,ow,nx⟩ R:=by
 obtain⟨E',h1,h2⟩:=k.out
 refine⟨E',?_,h2⟩
 refine TD.step (r:=⟨some d,.ref q,[],nx,none⟩) (.lraw hg hd hlt ho hx hc hp hgs hall) ?_
 have e1:upd (St.mk sl ow nx).f ⟨some d,.ref q,[],nx,none⟩=(St.mk ((d,.ref q)::sl) ow nx).f:=by
  refine EnvF.ext (fun s=> ?_) (fun i=> ?_)
  ·simp only[upd,St.f,lk_cons,Option.some.injEq]
  ·simp only[upd,St.f];exact addOwn_nil _ _ _
 rw[e1]
 exact h1
end
end Go.Proofs.YtlcobmehnaeebaaGreat
namespace Go.Proofs.YtlcobmehnaeebaaGreat
open Go Go.RowKit
set_option linter.unusedVariables false
set_option linter.unusedSimpArgs false
theorem run_equal_slice {P:Program}{t e:TypeId}(hu:P.underlying t=some (.slice e))(b:Option Addr)(n c:Nat)(w:World):(Op.equal t (.slice b n c) (.slice none 0 0)).run P w= .ok b.isNone w:=by
 have key: ∀d,(Op.equalIn (d+1) t (.slice b n c) (.slice none 0 0)).run P w= .ok b.isNone w:=by
  intro d
  rw[Op.equalIn]
  simp only[Sem.run_bind,run_underlying hu,Result.andThen_ok]
  cases b<;>rfl
 exact key 9999
section
variable {K:Ctx}{ops:Array Oper}{dr:Bool}{o:Oper}{rest:List Oper}{sl:List (Nat×SV)}{ow:List (Nat×Option Own)}{nx:Nat}{R:St→Prop}{E E':St}{d:Nat}{sv:SV}
theorem J.nc {t yt e:TypeId}{x:Operand}{sx:SV}{fr:Bool}{rows:List (List PV)}(ho:o.op= .binOp .eql t x (.const (.slice none 0 0)) yt)(hg:wants ops (St.mk sl ow nx).f o=some true)(hd:o.dst=some d)(hlt:K.can d=true)
  (hx:(St.mk sl ow nx).f.get x=some sx) (hr:sx.ff=some (fr,.sl rows)) (hu:K.P.underlying t=some (.slice e)) (q: ∀b:Bool,(b=true→rows=[])→J K ops false rest ⟨(d,.val true (.bool b))::sl,ow,nx⟩ R):J K ops false (o::rest) ⟨sl,ow,nx⟩ R:=by
 refine⟨⟨fun a w Q hrel hk=> ?_⟩⟩
 obtain⟨φ,hφ⟩:=hrel
 have hrep:=ff_sound hφ hx hr
 generalize hv:a.eval x=v at hrep
 obtain⟨b,n,c,hvs,hb⟩: ∃b n c,v= .slice b n c∧(b.isNone=true→rows=[]):=by
  cases hrep with
  |nilsl=>exact⟨none,0,0,rfl,fun _=>rfl⟩
  |slE=>exact⟨_,_,_,rfl,fun h=>by cases h⟩
  |sl b off cap sz rows xs _ _ _ _ _ _ _ _=>exact⟨_,_,_,rfl,fun h=>by cases h⟩
 have hrun:(execOp a.eval o).run K.P w= .ok (.value (.bool b.isNone)) w:=by
  have hg:(eqGuard .eql t x (.const (.slice none 0 0)) (.slice b n c) (.slice none 0 0)).run K.P w= .ok () w:=by
   unfold eqGuard;split<;>rfl
  have he:a.eval (.const (.slice none 0 0))= .slice none 0 0:=rfl
  simp only[execOp,ho,hv,he,hvs,Sem.run_bind,hg,Result.andThen_ok]
  simp only[binOp,Sem.run_bind,run_equal_slice hu,Result.andThen_ok,Sem.run_pure]
 unfold wpList
 rw[if_pos (wants_sound hφ hg)]
 refine .inl ?_
 unfold Oper.wp
 rw[hrun]
 refine(q b.isNone hb).out.out _ w Q ⟨φ,?_⟩ hk
 rw[hd]
 exact hφ.put hlt (sv:= .val true (.bool b.isNone)) (Rep.bool _) trivial rfl slot_put
end
theorem OwnRel.frz {w:World}{Z:Nat→Prop}{v:Value}{e:TypeId}{sz:Nat}{rows:List (List PV)}(h:OwnRel w (fun _=>Z) v (.sl e sz true rows))(hz: ∀g,VB v g→Z g):Rep w Z v (.sl rows):=by
 obtain⟨xs,hwn,hl,h1,h2⟩:=h
 have hcell:=fun g hg=>hwn.cells (g:=g) hg
 have hlt:=hwn.lt
 rcases hwn.2 with ⟨rfl,hn⟩|⟨g,cap,cur,rfl,_,hgc,hnc,hcm,_⟩
 ·have:rows=[]:=List.eq_nil_of_length_eq_zero hn
  subst this
  exact .nilsl
 ·refine .sl g 0 cap sz rows xs (hz g (.inl rfl)) (hlt g rfl).2 h1 h2 (fun j v hj=> ?_) hnc hcm hl
  have:=hcell g rfl j v hj
  rw[add_addr]at this
  exact soft_row hgc this
def RV.frz:RV→RV
 | .own _ _ rows=> .val (.sl rows)
 |r=>r
theorem vals_frz: ∀(res:List RV) (vs:List Value),RV.vals (res.map RV.frz) vs=[]
 | [],vs=>by cases vs<;>rfl
 |r::res,[]=>by cases r<;>rfl
 |r::res,v::vs=>by cases r<;>exact vals_frz res vs
theorem each_frz {w:World}{Z1 Z2:Nat→Prop}(hsub: ∀b,Z1 b→Z2 b){rs:List Value}{res:List RV}(h:L2 (RV1 w Z1) rs res)(hf: ∀v g,v∈RV.vals res rs→VB v g→Z2 g):L2 (RV1 w Z2) rs (res.map RV.frz):=by
 induction h with
 |nil=>exact .nil
 | @cons v r vs rs h1 _ ih=>
  cases r with
  |val p=>exact .cons (Rep.mono (fun b hb _=>⟨hsub b hb,rfl⟩) h1) (ih fun v g hv=>hf v g hv)
  |own e sz rows=>
   refine .cons ?_ (ih fun v g hv=>hf v g (.tail _ hv))
   have h2:OwnRel w (fun _=>Z1) v (.sl e sz true rows):=h1
   have h3:OwnRel w (fun _=>Z2) v (.sl e sz true rows):=h2.mono (fun _ _=>rfl) fun _ b hb _=>⟨hsub b hb,rfl⟩
   exact h3.frz fun g hg=>hf v g (.head _) hg
theorem Spec.frz {P:Program}{f:FuncId}{al:Bool}{args:List PV}{res:List RV}(h:Spec P f al args res):Spec P f al args (res.map RV.frz):=by
 refine⟨h.isFn,fun w Z vs hvs=>(h.out w Z vs hvs).mono fun e w' ⟨rs,he,hb,hret⟩=>⟨rs,he,hb,?_⟩⟩
 have hno:=vals_frz res
 refine⟨?_,(fun v g hv=>by rw[hno]at hv;cases hv),(fun i j v v' g hi=>by rw[hno]at hi;simp at hi)⟩
 refine each_frz (fun b hb=>⟨hb.1,fun v hv=> ?_⟩) hret.each fun v g hv hg=>⟨.inr (hret.fresh v g hv hg),fun v hv=> ?_⟩
 ·rw[hno]at hv;cases hv
 ·rw[hno]at hv;cases hv
end Go.Proofs.YtlcobmehnaeebaaGreat
namespace Go.Proofs.YtlcobmehnaeebaaGreat
open Go Go.RowKit
set_option linter.unusedVariables false
section
variable {K:Ctx}{x y:Code}{E:St}{Q:Exit→St→Prop}
theorem T.ct2 {f b:Bool}{o:Operand}(hc:E.f.get o=some (.val f (.bool b)))(hb:b=true)(ht:T K x E Q):T K (.cond o x y) E Q:= .cond hc (fun _=>ht) (fun h=>by rw[hb]at h;cases h)
theorem T.cf2 {f b:Bool}{o:Operand}(hc:E.f.get o=some (.val f (.bool b)))(hb:b=false)(hf:T K y E Q):T K (.cond o x y) E Q:= .cond hc (fun h=>by rw[hb]at h;cases h) (fun _=>hf)
end
theorem J.lo {K:Ctx}{ops:Array Oper}{dr:Bool}{o:Oper}{rest:List Oper}{sl:List (Nat×SV)}{ow:List (Nat×Option Own)}{nx:Nat}{R:St→Prop}{d:Nat}{t:TypeId}{x:Operand}{q i off st:Nat}{e:TypeId}{fr:Bool}{rows:List (List PV)}{r:List PV}{p:PV}
  (ho:o.op= .load t x) (hg:wants ops (St.mk sl ow nx).f o=some true) (hd:o.dst=some d) (hlt:K.can d=true) (hx:(St.mk sl ow nx).f.get x=some (.optr q i off st)) (hq:(St.mk sl ow nx).f.own q=some (.sl e st fr rows))
  (hr:rows[i]? =some r) (hp:loadPV K.P t (r.drop off)=some p) (k:J K ops dr rest ⟨(d,mkv fr p)::sl,ow,nx⟩ R):J K ops dr (o::rest) ⟨sl,ow,nx⟩ R:=
 .does hg hd hlt (.ev (by simp[ev,ho,hx,EnvF.cellsAt,hq,Own.at_,hr,hp])) k
theorem J.cc {K:Ctx}{ops:Array Oper}{dr:Bool}{o:Oper}{rest:List Oper}{sl:List (Nat×SV)}{ow:List (Nat×Option Own)}{nx:Nat}{R:St→Prop}{d:Nat}
  {x:Operand} {args:Array Operand} {tys:Array TypeId} {f:FuncId} {first caps ps ps':List PV} {al fx:Bool} {res:List RV} (ho:o.op= .call { callee:= .value x,args:=args,argTypes:=tys }) (hg:wants ops (St.mk sl ow nx).f o=some true) (hd:o.dst=some d) (hlt:K.can d=true)
  (hx:(St.mk sl ow nx).f.get x=some (.val fx (.fn (.func f) first caps))) (hspec:Spec K.P f al ps' res) (ha:argPVs (St.mk sl ow nx).f al args.toList=some ps) (he:first++ps++caps=ps')
  (q:J K ops dr rest ⟨(d,RV.one (!al) nx res)::sl,pushOw nx (RV.owns (!al) res) ow,nx+(RV.owns (!al) res).length⟩ R):J K ops dr (o::rest) ⟨sl,ow,nx⟩ R:=
 .c ho hg hd hlt hx (he▸hspec) ha q
def intFields (P:Program):Nat→List Field→Bool
 |_,[]=>true
 |k,f::fs=>f.name != "_" &&Nat.beq f.offset k&&(match P.underlying f.type with|some (.int _)=>true|_=>false)&&intFields P (k+1) fs
theorem run_eqInts {P:Program}(d:Nat)(w:World)(as bs:List Int): ∀(fs:List Field) (k:Nat),intFields P k fs=true→as.length=k+fs.length→bs.length=k+fs.length→
  (Op.eqFields (d+1) (as.map (Value.int .i64)).toArray (bs.map (Value.int .i64)).toArray fs).run P w= .ok (decide (as.drop k=bs.drop k)) w
 | [],k,_,ha,hb=>by
  simp only[List.length_nil,Nat.add_zero]at ha hb
  rw[List.drop_of_length_le (by omega),List.drop_of_length_le (by omega)]
  rfl
 |f::fs,k,h,ha,hb=>by
  simp only[intFields,Bool.and_eq_true,bne_iff_ne]at h
  simp only[List.length_cons]at ha hb
  obtain⟨⟨⟨h1,h2⟩,h3⟩,h4⟩:=h
  have h2:=Nat.eq_of_beq_eq_true h2
  have hk1:k<as.length:=by omega
  have hk2:k<bs.length:=by omega
  have ih:=run_eqInts d w as bs fs (k+1) h4 (by omega) (by omega)
  split at h3
  ·rename_i kk hu
   have hagg:(isAgg f.type).run P w= .ok false w:=run_isAgg hu w
   have hp: ∀(l:List Int) (h:k<l.length),(part f.type (l.map (Value.int .i64)).toArray f.offset).run P w= .ok (.int .i64 l[k]) w:=by
    intro l hl
    simp[part,hagg,h2,hl]
   simp only[Op.eqFields,if_pos h1,Sem.run_bind,hp as hk1,hp bs hk2,Result.andThen_ok,run_equalIn_int w d f.type .i64 kk _ _ hu]
   have e3:(as.drop k=bs.drop k)↔(as[k]=bs[k]∧as.drop (k+1)=bs.drop (k+1)):=by
    rw[List.drop_eq_getElem_cons hk1,List.drop_eq_getElem_cons hk2,List.cons.injEq]
   by_cases e:as[k]=bs[k]
   ·simp[e,ih,e3]
   ·simp[e,e3]
  ·cases h3
theorem L2_ints {w:World}{Z:Nat→Prop}: ∀{as:List Int} {vs:List Value},L2 (Rep w Z) vs (as.map (PV.int .i64))→vs=as.map (Value.int .i64)
 | [],_,.nil=>rfl
 |a::as,_,.cons h hr=>by
  cases h
  rw[L2_ints hr];rfl
theorem J.se {K:Ctx}{ops:Array Oper}{dr:Bool}{o:Oper}{rest:List Oper}{sl:List (Nat×SV)}{ow:List (Nat×Option Own)}{nx:Nat}{R:St→Prop}{d:Nat}{op:BinOp}{t yt:TypeId}{x y:Operand}{f1 f2:Bool}{cs ds:List PV}(as bs:List Int)
  (ho:o.op= .binOp op t x y yt) (hg:wants ops (St.mk sl ow nx).f o=some true) (hd:o.dst=some d) (hlt:K.can d=true) (hx:(St.mk sl ow nx).f.get x=some (.val f1 (.agg cs))) (hy:(St.mk sl ow nx).f.get y=some (.val f2 (.agg ds)))
  (hc:cs=as.map (PV.int .i64)) (hd2:ds=bs.map (PV.int .i64)) (hS:K.P.underlying t=some (.struct (K.P.fieldsOf t))) (hp:K.P.stoodInHeld t=false) (hG:K.P.eqGuardType K.P.depth t=false) (hi:intFields K.P 0 (K.P.fieldsOf t).toList=true) (hl:as.length=(K.P.fieldsOf t).toList.length) (hl2:bs.length=(K.P.fieldsOf t).toList.length) (hop:op= .eql∨op= .neq)
  (k:J K ops dr rest ⟨(d,.val true (.bool (match op with| .eql=>decide (as=bs)|_=> !decide (as=bs))))::sl,ow,nx⟩ R):J K ops dr (o::rest) ⟨sl,ow,nx⟩ R:=by
 refine .does hg hd hlt (.gen (xs:=[x,y]) (l:=[.agg cs,.agg ds]) ?_ ?_ ?_) k
 ·rw[ho];simp[Op.operands]
 ·simp[fzList,hx,hy,SV.ff]
 ·intro a w hr
  subst hc hd2
  cases hr with
  |cons h1 hr=>
  cases hr with
  |cons h2 _=>
  generalize hv1:a.eval x=v1 at h1
  generalize hv2:a.eval y=v2 at h2
  cases h1 with
  |agg us _ hu hu1=>
  cases h2 with
  |agg ws _ hw hw1=>
  obtain rfl:=L2_ints hu
  obtain rfl:=L2_ints hw
  have he:(Op.equalIn 10000 t (.agg (as.map (Value.int .i64)).toArray) (.agg (bs.map (Value.int .i64)).toArray)).run K.P w= .ok (decide (as=bs)) w:=by
   rw[show(10000:Nat)=9998+1+1 from rfl,run_equalIn_agg w _ t _ _ hS hp]
   have:=run_eqInts (P:=K.P) 9998 w as bs (K.P.fieldsOf t).toList 0 hi (by omega) (by omega)
   simpa using this
  have hge:=run_eqGuard_agg (P:=K.P) w op t x y (as.map (Value.int .i64)).toArray (bs.map (Value.int .i64)).toArray hG
  rcases hop with rfl|rfl
  ·exact⟨_,by simp only[execOp,ho,hv1,hv2,Sem.run_bind,hge,Result.andThen_ok,run_eql_struct,he];rfl,fun Z=> .bool _⟩
  ·exact⟨_,by simp only[execOp,ho,hv1,hv2,Sem.run_bind,hge,Result.andThen_ok,run_neq_struct,he];rfl,fun Z=> .bool _⟩
theorem snoc1 {α:Type}{enc:α→List PV}{l:List α}{x:α}{p:List PV}(h:enc x=p):l.map enc++[p]=(l++[x]).map enc:=by simp[h]
theorem one_len {α:Type}{r:List α}{n:Nat}(h:r.length=n): ∀x∈[r],x.length=n:=by
 intro x hx;simp at hx;subst hx;exact h
theorem row_i {α:Type}{enc:α→List PV}{l:List α}{i:Nat}(h:i<l.length):(l.map enc)[((i:Nat):Int).toNat]? =some (enc l[i]):=by simp[h]
theorem T.listI {K:Ctx}{c:Code}{Q:Exit→St→Prop}{α:Type}(l:List α)(Inv:List α→Prop)(Es:Nat→List α→List α→St)(hg: ∀l E,¬Q (.goto l) E)(h0:Inv [])
  (step: ∀n pre x post,l=pre++x::post→n=pre.length→Inv pre→(Inv (pre++[x])→T K (.loop c) (Es (n+1) (pre++[x]) post) Q)→T K c (Es n pre (x::post)) (lp K c Q))
  (fin:Inv l→T K c (Es l.length l []) (lp K c Q)):T K (.loop c) (Es 0 [] l) Q:=by
 have key: ∀post pre n,l=pre++post→n=pre.length→Inv pre→T K (.loop c) (Es n pre post) Q:=by
  intro post
  induction post with
  |nil=>
   intro pre n h hn hi
   rw[List.append_nil]at h
   subst h hn
   exact .loop hg (fin hi)
  |cons x post ih=>
   intro pre n h hn hi
   exact .loop hg (step n pre x post h hn hi fun hi2=>ih (pre++[x]) (n+1) (by simp[h]) (by simp[hn]) hi2)
 exact key l [] 0 rfl rfl h0
theorem Rel.flat {K:Ctx}{sl:List (Nat×SV)}{ow:List (Nat×Option Own)}{nx:Nat}{o:Nat}{e:TypeId}{sz:Nat}{fr:Bool}{rows:List (List PV)}(ho:(St.mk sl ow nx).f.own o=some (.sl e sz fr rows))(hf: ∀r∈rows,∀p∈r,p.flat=true)(a:Act)(w:World)(h:Rel K ⟨sl,ow,nx⟩ a w):
  Rel K ⟨sl,(o,some (.sl e sz true rows))::ow,nx⟩ a w:=by
 obtain⟨φ,hφ⟩:=h
 have hown': ∀q c,(St.mk sl ((o,some (.sl e sz true rows))::ow) nx).f.own q=some c→(q=o∧c= .sl e sz true rows)∨(q≠o∧(St.mk sl ow nx).f.own q=some c):=by
  intro q c hq
  simp only[St.f,lk_cons]at hq
  by_cases e:o=q
  ·rw[if_pos e]at hq;exact .inl ⟨e.symm,(Option.some.inj hq).symm⟩
  ·rw[if_neg e]at hq;exact .inr ⟨Ne.symm e,hq⟩
 have hdom: ∀q c,(St.mk sl ((o,some (.sl e sz true rows))::ow) nx).f.own q=some c→∃c',(St.mk sl ow nx).f.own q=some c':=by
  intro q c hq
  rcases hown' q c hq with ⟨rfl,_⟩|⟨_,h⟩
  ·exact⟨_,ho⟩
  ·exact⟨_,h⟩
 have hZ: ∀f b,Zf K (St.mk sl ow nx).f φ f b→Zf K (St.mk sl ((o,some (.sl e sz true rows))::ow) nx).f φ f b:=
  fun f b hb=>⟨⟨hb.1.1,fun q c hq=>by obtain⟨c',hq'⟩:=hdom q c hq;exact hb.1.2 q c' hq'⟩,hb.2⟩
 refine⟨φ,hφ.df,hφ.sz,hφ.old,hφ.kept,?_,?_,?_,?_,?_,?_⟩
 ·intro q c hq
  rcases hown' q c hq with ⟨rfl,rfl⟩|⟨_,h⟩
  ·obtain⟨xs,hwn,hl,h1,h2⟩:=hφ.own q _ ho
   refine⟨xs,hwn,?_,h1,h2⟩
   have: ∀(xs:List Value) (ps:List PV),L2 (Rep w (Zf K (St.mk sl ow nx).f φ fr)) xs ps→(∀p∈ps,p.flat=true)→L2 (Rep w (Zf K (St.mk sl ((q,some (.sl e sz true rows))::ow) nx).f φ true)) xs ps:=by
    intro xs ps h
    induction h with
    |nil=>intro _;exact .nil
    |cons h _ ih=>intro hp;exact .cons (h.flat (hp _ (.head _))) (ih fun p hm=>hp p (.tail _ hm))
   exact this _ _ hl fun p hp=>by
    obtain⟨r,hr,hp⟩:=List.mem_flatten.1 hp
    exact hf r hr p hp
  ·exact(hφ.own q c h).mono (fun _ _=>rfl) fun f b hb _=>⟨hZ f b hb,rfl⟩
 ·intro q c g hq
  obtain⟨c',hq'⟩:=hdom q c hq
  exact hφ.mine q c' g hq'
 ·intro q c hq
  obtain⟨c',hq'⟩:=hdom q c hq
  exact hφ.inU q c' hq'
 ·intro q q' c c' g hq hq'
  obtain⟨c1,hq1⟩:=hdom q c hq
  obtain⟨c2,hq2⟩:=hdom q' c' hq'
  exact hφ.dis q q' c1 c2 g hq1 hq2
 ·intro t sv hsv
  obtain⟨v,hv,hr⟩:=hφ.slot t sv hsv
  exact⟨v,hv,hr.mono (hφ.sin t sv hsv) (fun f b hb _=>⟨hZ f b hb,rfl⟩) (fun _ _=>rfl)⟩
 ·exact hφ.sin
theorem J.s1 {K:Ctx}{ops:Array Oper}{dr:Bool}{o:Oper}{rest:List Oper}{sl:List (Nat×SV)}{ow:List (Nat×Option Own)}{nx:Nat}{R:St→Prop}{d:Nat}{α:Type}{enc:α→List PV}{l:List α}{t:TypeId}{x y:Operand}{sx:SV}{fr fh:Bool}{e:TypeId}{inf:TypeInfo}{h:Int}{kh:IntKind}(n:Nat)
  (ho:o.op= .slice t x none (some y) none) (hg:wants ops (St.mk sl ow nx).f o=some true) (hd:o.dst=some d) (hlt:K.can d=true)
  (hx:(St.mk sl ow nx).f.get x=some sx) (hr:sx.ff=some (fr,.sl (l.map enc))) (hu:K.P.underlying t=some (.slice e)) (hinf:K.P.info? e=some inf) (hy:(St.mk sl ow nx).f.get y=some (.val fh (.int kh h)))
  (h3: ∀z,(enc z).length=inf.size) (hh:h=(n:Nat)) (hn:n≤l.length)
  (q:J K ops dr rest ⟨(d,.val fr (.sl ((l.take n).map enc)))::sl,ow,nx⟩ R):J K ops dr (o::rest) ⟨sl,ow,nx⟩ R:=by
 refine J.s (l:=0) (h:=h) (fl:=true) (kl:= .i64) ho hg hd hlt hx hr hu hinf (.inl ⟨rfl,rfl⟩) (.inr ⟨y,rfl,hy⟩) (by omega) (by omega) (by simp;omega) (fun r hr=> ?_) ?_
 ·obtain⟨z,_,rfl⟩:=List.mem_map.1 hr
  exact h3 z
 ·rw[hh]
  simpa[List.map_take]using q
def only (E':St)(e:Exit)(E:St):Prop:=e= .normal∧∃keep os,dup (idsOf E.f os)=false∧canonE E keep os=E'
theorem T.mid {K:Ctx}{x y:Code}{E:St}{Q:Exit→St→Prop}(E':St)(hx:T K x E (only E'))(hy:T K y E' Q):T K (.seq x y) E Q:=by
 refine .seq (hx.mono ?_)
 rintro e E2 ⟨rfl,keep,os,hd,rfl⟩
 exact T.canon hd hy
theorem putCells_all: ∀(ps pre cs:List PV),cs.length=ps.length→putCells (pre++cs) pre.length ps=pre++ps
 | [],pre,cs,h=>by
  have:cs=[]:=List.eq_nil_of_length_eq_zero h
  simp[putCells,this]
 |p::ps,pre,[],h=>by simp at h
 |p::ps,pre,c::cs,h=>by
  simp only[putCells]
  have e:(pre++c::cs).set pre.length p=(pre++[p])++cs:=by simp
  rw[e]
  have:=putCells_all ps (pre++[p]) cs (by simpa using h)
  simp only[List.length_append,List.length_singleton]at this
  rw[this];simp
theorem J.w1 {K:Ctx}{ops:Array Oper}{o:Oper}{rest:List Oper}{sl:List (Nat×SV)}{ow:List (Nat×Option Own)}{nx:Nat}{R:St→Prop}{α:Type}{enc:α→List PV}{l:List α}{z:α}{t e:TypeId}{x y:Operand}{q i st:Nat}{fr:Bool}{sy:SV}{fp:Bool}{p:PV}{inf:TypeInfo}
  (ho:o.op= .store t x y) (hg:wants ops (St.mk sl ow nx).f o=some true) (hd:o.dst=none) (hx:(St.mk sl ow nx).f.get x=some (.optr q i 0 st)) (hq:(St.mk sl ow nx).f.own q=some (.sl e st fr (l.map enc))) (hy:(St.mk sl ow nx).f.get y=some sy) (hp:sy.ff=some (fp,p))
  (hi:K.P.info? t=some inf) (hs:p.cells.length=inf.size) (hst:inf.size=st) (hz:p.cells=enc z) (hl: ∀y,(enc y).length=st) (hlt:i<l.length) (k:J K ops false rest ⟨sl,(q,some (.sl e st (fr&&fp) ((l.set i z).map enc)))::ow,nx⟩ R):J K ops false (o::rest) ⟨sl,ow,nx⟩ R:=by
 refine J.w ho hg hd hx hq hy hp hi hs ?_ k
 have h1:Nat.beq st st=true:=Nat.beq_refl st
 have hzl:(enc z).length=st:=hl z
 have h2:Nat.ble (0+p.cells.length) (enc l[i]).length=true:=by simp[hz,hl]
 have h3:putCells (enc l[i]) 0 p.cells=enc z:=by
  have:=putCells_all p.cells [] (enc l[i]) (by simp[hz,hl])
  rw[hz]at this⊢
  simpa using this
 have h4:(l.map enc)[i]? =some (enc l[i]):=by simp[hlt]
 simp only[Own.put,h1,h4,h2,h3,List.map_set]
theorem J.al {K:Ctx}{ops:Array Oper}{dr:Bool}{o:Oper}{rest:List Oper}{sl:List (Nat×SV)}{ow:List (Nat×Option Own)}{nx:Nat}{R:St→Prop}{d:Nat}{t:TypeId}{ps:List PV}{inf:TypeInfo}{z:Value}
  (ho:o.op= .alloc t) (hg:wants ops (St.mk sl ow nx).f o=some true) (hd:o.dst=some d) (hlt:K.can d=true) (hi:K.P.info? t=some inf) (hz:inf.zero=some z) (hps:zeroPVs z.cells.toList=some ps)
  (q:J K ops dr rest ⟨(d,.optr nx 0 0 0)::sl,(nx,some (.box true ps))::ow,nx+1⟩ R):J K ops dr (o::rest) ⟨sl,ow,nx⟩ R:=
 .does hg hd hlt (.alloc ho hi hz hps) q
theorem J.a1 {K:Ctx}{ops:Array Oper}{o:Oper}{rest:List Oper}{sl:List (Nat×SV)}{ow:List (Nat×Option Own)}{nx:Nat}{R:St→Prop}{d:Nat}{args:Array Operand}{tys:Array TypeId}{s y:Operand}{t e:TypeId}{q sz:Nat}{fr fy:Bool}{α:Type}{enc:α→List PV}{l:List α}{x:α}{r:List PV}{sy:SV}{inf:TypeInfo}{z:Value}{B:Nat}
  (ho:o.op= .call { callee:= .builtin .append,args:=args,argTypes:=tys }) (ha:args.toList=[s,y]) (ht:tys.toList=[t,t]) (hg:wants ops (St.mk sl ow nx).f o=some true) (hd:o.dst=some d) (hlt:K.can d=true)
  (hs:(St.mk sl ow nx).f.get s=some (.ref q)) (hq:(St.mk sl ow nx).f.own q=some (.sl e sz fr (l.map enc))) (hy:(St.mk sl ow nx).f.get y=some sy) (hp:(St.mk sl ow nx).f.pvf sy=some (fy,.sl [r]))
  (hu:K.P.underlying t=some (.slice e)) (hi:K.P.info? e=some inf) (hsz:inf.size=sz) (hz:inf.zero=some z) (hzs:z.cells.size=sz) (h0:Nat.blt 0 sz=true) (hb1:Nat.ble 1 inf.bytes=true) (hr:r.length=sz) (hB:inf.bytes=B)
  (hx:r=enc x) (hby:(l.length+1)*B≤140737488355328)
  (k:J K ops false rest ⟨(d,.ref nx)::sl,(nx,some (.sl e sz (fr&&fy) ((l++[x]).map enc)))::(q,none)::ow,nx+1⟩ R):J K ops false (o::rest) ⟨sl,ow,nx⟩ R:=by
 have h:=J.a ho ha ht hg hd hlt hs hq hy hp hu hi hsz hz hzs h0 hb1 (one_len hr) (by rw[hB];simpa using hby) (rest:=rest) (R:=R)
 rw[snoc1 hx.symm]at h
 exact h k
section
variable {K:Ctx}{ops:Array Oper}{o:Oper}{rest:List Oper}{sl:List (Nat×SV)}{ow:List (Nat×Option Own)}{nx:Nat}{R:St→Prop}{d:Nat}{args:Array Operand}{tys:Array TypeId}{s y:Operand}{t e:TypeId}{q:Nat}{fr fy:Bool}{r:List PV}{sy:SV}{inf:TypeInfo}{z:Value}
theorem J.aI {l:List Int}{x:Int}
  (ho:o.op= .call { callee:= .builtin .append,args:=args,argTypes:=tys }) (ha:args.toList=[s,y]) (ht:tys.toList=[t,t]) (hg:wants ops (St.mk sl ow nx).f o=some true) (hd:o.dst=some d) (hlt:K.can d=true)
  (hs:(St.mk sl ow nx).f.get s=some (.ref q)) (hq:(St.mk sl ow nx).f.own q=some (.sl e 1 fr (l.map cI))) (hy:(St.mk sl ow nx).f.get y=some sy) (hp:(St.mk sl ow nx).f.pvf sy=some (fy,.sl [r]))
  (hu:K.P.underlying t=some (.slice e)) (hi:K.P.info? e=some inf) (hsz:inf.size=1) (hz:inf.zero=some z) (hzs:z.cells.size=1) (hb1:Nat.ble 1 inf.bytes=true) (hr:r.length=1) (hB:inf.bytes=8)
  (hx:r=cI x) (hby:(l.length+1)*8≤140737488355328)
  (k:J K ops false rest ⟨(d,.ref nx)::sl,(nx,some (.sl e 1 (fr&&fy) ((l++[x]).map cI)))::(q,none)::ow,nx+1⟩ R):J K ops false (o::rest) ⟨sl,ow,nx⟩ R:=
 J.a1 ho ha ht hg hd hlt hs hq hy hp hu hi hsz hz hzs rfl hb1 hr hB hx hby k
theorem J.aR {l:List (Int×Int)}{a b:Int}
  (ho:o.op= .call { callee:= .builtin .append,args:=args,argTypes:=tys }) (ha:args.toList=[s,y]) (ht:tys.toList=[t,t]) (hg:wants ops (St.mk sl ow nx).f o=some true) (hd:o.dst=some d) (hlt:K.can d=true)
  (hs:(St.mk sl ow nx).f.get s=some (.ref q)) (hq:(St.mk sl ow nx).f.own q=some (.sl e 2 fr (l.map cR))) (hy:(St.mk sl ow nx).f.get y=some sy) (hp:(St.mk sl ow nx).f.pvf sy=some (fy,.sl [r]))
  (hu:K.P.underlying t=some (.slice e)) (hi:K.P.info? e=some inf) (hsz:inf.size=2) (hz:inf.zero=some z) (hzs:z.cells.size=2) (hb1:Nat.ble 1 inf.bytes=true) (hr:r.length=2) (hB:inf.bytes=16)
  (hx:r=cR (a,b)) (hby:(l.length+1)*16≤140737488355328)
  (k:J K ops false rest ⟨(d,.ref nx)::sl,(nx,some (.sl e 2 (fr&&fy) ((l++[(a,b)]).map cR)))::(q,none)::ow,nx+1⟩ R):J K ops false (o::rest) ⟨sl,ow,nx⟩ R:=
 J.a1 ho ha ht hg hd hlt hs hq hy hp hu hi hsz hz hzs rfl hb1 hr hB hx hby k
theorem J.aD {l:List (List (Int×Int))}{x:List (Int×Int)}
  (ho:o.op= .call { callee:= .builtin .append,args:=args,argTypes:=tys }) (ha:args.toList=[s,y]) (ht:tys.toList=[t,t]) (hg:wants ops (St.mk sl ow nx).f o=some true) (hd:o.dst=some d) (hlt:K.can d=true)
  (hs:(St.mk sl ow nx).f.get s=some (.ref q)) (hq:(St.mk sl ow nx).f.own q=some (.sl e 1 fr (l.map cD))) (hy:(St.mk sl ow nx).f.get y=some sy) (hp:(St.mk sl ow nx).f.pvf sy=some (fy,.sl [r]))
  (hu:K.P.underlying t=some (.slice e)) (hi:K.P.info? e=some inf) (hsz:inf.size=1) (hz:inf.zero=some z) (hzs:z.cells.size=1) (hb1:Nat.ble 1 inf.bytes=true) (hr:r.length=1) (hB:inf.bytes=24)
  (hx:r=cD x) (hby:(l.length+1)*24≤140737488355328)
  (k:J K ops false rest ⟨(d,.ref nx)::sl,(nx,some (.sl e 1 (fr&&fy) ((l++[x]).map cD)))::(q,none)::ow,nx+1⟩ R):J K ops false (o::rest) ⟨sl,ow,nx⟩ R:=
 J.a1 ho ha ht hg hd hlt hs hq hy hp hu hi hsz hz hzs rfl hb1 hr hB hx hby k
end
theorem J.am {K:Ctx}{ops:Array Oper}{o:Oper}{rest:List Oper}{sl:List (Nat×SV)}{ow:List (Nat×Option Own)}{nx:Nat}{R:St→Prop}{d:Nat}{args:Array Operand}{tys:Array TypeId}{s y:Operand}{t e:TypeId}{q sz:Nat}{fr fy:Bool}{α:Type}{enc:α→List PV}{l l2:List α}{sy:SV}{inf:TypeInfo}{z:Value}{B:Nat}
  (ho:o.op= .call { callee:= .builtin .append,args:=args,argTypes:=tys }) (ha:args.toList=[s,y]) (ht:tys.toList=[t,t]) (hg:wants ops (St.mk sl ow nx).f o=some true) (hd:o.dst=some d) (hlt:K.can d=true)
  (hs:(St.mk sl ow nx).f.get s=some (.ref q)) (hq:(St.mk sl ow nx).f.own q=some (.sl e sz fr (l.map enc))) (hy:(St.mk sl ow nx).f.get y=some sy) (hp:(St.mk sl ow nx).f.pvf sy=some (fy,.sl (l2.map enc)))
  (hu:K.P.underlying t=some (.slice e)) (hi:K.P.info? e=some inf) (hsz:inf.size=sz) (hz:inf.zero=some z) (hzs:z.cells.size=sz) (h0:Nat.blt 0 sz=true) (hb1:Nat.ble 1 inf.bytes=true) (hr: ∀x,(enc x).length=sz) (hB:inf.bytes=B)
  (hby:(l.length+l2.length)*B≤140737488355328)
  (k:J K ops false rest ⟨(d,.ref nx)::sl,(nx,some (.sl e sz (fr&&fy) ((l++l2).map enc)))::(q,none)::ow,nx+1⟩ R):J K ops false (o::rest) ⟨sl,ow,nx⟩ R:=by
 have h:=J.a ho ha ht hg hd hlt hs hq hy hp hu hi hsz hz hzs h0 hb1 (fun r hr'=>by obtain⟨x,_,rfl⟩:=List.mem_map.1 hr';exact hr x) (by rw[hB];simpa using hby) (rest:=rest) (R:=R)
 rw[←List.map_append]at h
 exact h k
theorem J.s2 {K:Ctx}{ops:Array Oper}{dr:Bool}{o:Oper}{rest:List Oper}{sl:List (Nat×SV)}{ow:List (Nat×Option Own)}{nx:Nat}{R:St→Prop}{d:Nat}{α:Type}{enc:α→List PV}{l:List α}{t:TypeId}{x y1 y:Operand}{sx:SV}{fr fl fh:Bool}{e:TypeId}{inf:TypeInfo}{lo h:Int}{kl kh:IntKind}(m n:Nat)
  (ho:o.op= .slice t x (some y1) (some y) none) (hg:wants ops (St.mk sl ow nx).f o=some true) (hd:o.dst=some d) (hlt:K.can d=true)
  (hx:(St.mk sl ow nx).f.get x=some sx) (hr:sx.ff=some (fr,.sl (l.map enc))) (hu:K.P.underlying t=some (.slice e)) (hinf:K.P.info? e=some inf) (hy1:(St.mk sl ow nx).f.get y1=some (.val fl (.int kl lo))) (hy:(St.mk sl ow nx).f.get y=some (.val fh (.int kh h)))
  (h3: ∀z,(enc z).length=inf.size) (hl1:lo=(m:Nat)) (hh:h=(n:Nat)) (hmn:m≤n) (hn:n≤l.length)
  (q:J K ops dr rest ⟨(d,.val fr (.sl (((l.take n).drop m).map enc)))::sl,ow,nx⟩ R):J K ops dr (o::rest) ⟨sl,ow,nx⟩ R:=by
 refine J.s (l:=lo) (h:=h) (fl:=fl) (kl:=kl) ho hg hd hlt hx hr hu hinf (.inr ⟨y1,rfl,hy1⟩) (.inr ⟨y,rfl,hy⟩) (by omega) (by omega) (by simp;omega) (fun r hr=> ?_) ?_
 ·obtain⟨z,_,rfl⟩:=List.mem_map.1 hr
  exact h3 z
 ·rw[hh,hl1]
  simpa[List.map_take,List.map_drop]using q
theorem lt_at {α β:Type}{f:α→β}{l pre post:List α}{x:α}{n:Nat}(h:l=pre++x::post)(hn:n=pre.length):decide ((n:Int)<((l.map f).length:Nat))=true:=by
 subst h hn;simp;omega
theorem lt_end {α β:Type}{f:α→β}{l:List α}:decide ((l.length:Int)<((l.map f).length:Nat))=false:=by simp
theorem at_lt {α:Type}{l pre post:List α}{x:α}{n:Nat}(h:l=pre++x::post)(hn:n=pre.length):n<l.length:=by
 subst h hn;simp
theorem wrap1 {l n:Nat}(h:n<l)(hl:l*8≤140737488355328):IntKind.i64.wrap ((n:Int)+1)=((n+1:Nat):Int):=by
 rw[wrap_id (by omega) (by omega)];rfl
end Go.Proofs.YtlcobmehnaeebaaGreat
namespace Go.Proofs.YtlcobmehnaeebaaGreat
open Go Go.RowKit
set_option linter.unusedVariables false
set_option linter.unusedSimpArgs false
section
variable {K:Ctx}{ops:Array Oper}{dr:Bool}{o:Oper}{rest:List Oper}{sl:List (Nat×SV)}{ow:List (Nat×Option Own)}{nx:Nat}{R:St→Prop}{d:Nat}
theorem J.s3 {α:Type}{enc:α→List PV}{l:List α}{t:TypeId}{x y1:Operand}{sx:SV}{fr fl:Bool}{e:TypeId}{inf:TypeInfo}{lo:Int}{kl:IntKind}(m:Nat)
  (ho:o.op= .slice t x (some y1) none none) (hg:wants ops (St.mk sl ow nx).f o=some true) (hd:o.dst=some d) (hlt:K.can d=true)
  (hx:(St.mk sl ow nx).f.get x=some sx) (hr:sx.ff=some (fr,.sl (l.map enc))) (hu:K.P.underlying t=some (.slice e)) (hinf:K.P.info? e=some inf) (hy1:(St.mk sl ow nx).f.get y1=some (.val fl (.int kl lo)))
  (h3: ∀z,(enc z).length=inf.size) (hl1:lo=(m:Nat)) (hmn:m≤l.length)
  (q:J K ops dr rest ⟨(d,.val fr (.sl ((l.drop m).map enc)))::sl,ow,nx⟩ R):J K ops dr (o::rest) ⟨sl,ow,nx⟩ R:=by
 subst hl1
 refine J.s (fh:=true) (kh:= .i64) ho hg hd hlt hx hr hu hinf (.inr ⟨y1,rfl,hy1⟩) (.inl ⟨rfl,rfl⟩) (by omega) (by simp;omega) (by simp) (fun r hr=>by obtain⟨z,_,rfl⟩:=List.mem_map.1 hr;exact h3 z) ?_
 have e:((l.map enc).take ((l.map enc).length:Int).toNat).drop ((m:Int).toNat)=(l.drop m).map enc:=by rw[Int.toNat_natCast,Int.toNat_natCast,List.take_length,←List.map_drop]
 rw[e]
 exact q
theorem J.rm {t t2:TypeId}{x y:Operand}{fa fb:Bool}{k:IntKind}{a b:Int}(ho:o.op= .binOp .rem t x y t2)(hg:wants ops (St.mk sl ow nx).f o=some true)(hd:o.dst=some d)(hlt:K.can d=true)
  (hx:(St.mk sl ow nx).f.get x=some (.val fa (.int k a))) (hy:(St.mk sl ow nx).f.get y=some (.val fb (.int k b))) (hb:b≠0)
  (q:J K ops dr rest ⟨(d,.val true (.int k (a.tmod b)))::sl,ow,nx⟩ R):J K ops dr (o::rest) ⟨sl,ow,nx⟩ R:=by
 refine J.e hg hd hlt ?_ q
 simp only[ev,ho,hx,hy,binPV,if_true,if_neg hb,Option.map_some]
theorem J.qu {t t2:TypeId}{x y:Operand}{fa fb:Bool}{k:IntKind}{a b:Int}(ho:o.op= .binOp .quo t x y t2)(hg:wants ops (St.mk sl ow nx).f o=some true)(hd:o.dst=some d)(hlt:K.can d=true)
  (hx:(St.mk sl ow nx).f.get x=some (.val fa (.int k a))) (hy:(St.mk sl ow nx).f.get y=some (.val fb (.int k b))) (hb:b≠0)
  (q:J K ops dr rest ⟨(d,.val true (.int k (k.wrap (a.tdiv b))))::sl,ow,nx⟩ R):J K ops dr (o::rest) ⟨sl,ow,nx⟩ R:=by
 refine J.e hg hd hlt ?_ q
 simp only[ev,ho,hx,hy,binPV,if_true,if_neg hb,Option.map_some]
end
theorem Rel.unbx {K:Ctx}{sl:List (Nat×SV)}{ow:List (Nat×Option Own)}{nx s o:Nat}{fr:Bool}{row:List PV}(hM: ∀b,¬K.M b)(hs:lk sl s=some (.optr o 0 0 0))(ho:(St.mk sl ow nx).f.own o=some (.box fr row))(a:Act)(w:World)(h:Rel K ⟨sl,ow,nx⟩ a w):
  Rel K ⟨(s,.fptr fr row)::sl,(o,none)::ow,nx⟩ a w:=by
 obtain⟨φ,hφ⟩:=h
 have hown': ∀q c,(St.mk ((s,.fptr fr row)::sl) ((o,none)::ow) nx).f.own q=some c→q≠o∧(St.mk sl ow nx).f.own q=some c:=by
  intro q c hq
  simp only[St.f,lk_cons]at hq
  by_cases e:o=q
  ·rw[if_pos e]at hq;cases hq
  ·rw[if_neg e]at hq;exact⟨Ne.symm e,hq⟩
 have hZ: ∀f b,Zf K (St.mk sl ow nx).f φ f b→Zf K (St.mk ((s,.fptr fr row)::sl) ((o,none)::ow) nx).f φ f b:=
  fun f b hb=>⟨⟨hb.1.1,fun q c hq=>hb.1.2 q c (hown' q c hq).2⟩,hb.2⟩
 refine⟨φ,hφ.df,hφ.sz,hφ.old,hφ.kept,?_,?_,?_,?_,?_,?_⟩
 ·intro q c hq
  exact(hφ.own q c (hown' q c hq).2).mono (fun _ _=>rfl) fun f b hb _=>⟨hZ f b hb,rfl⟩
 ·intro q c g hq
  exact hφ.mine q c g (hown' q c hq).2
 ·intro q c hq
  exact hφ.inU q c (hown' q c hq).2
 ·intro q q' c c' g hq hq'
  exact hφ.dis q q' c c' g (hown' q c hq).2 (hown' q' c' hq').2
 ·intro t sv hsv
  rcases slot_put t sv hsv with ⟨rfl,rfl⟩|⟨_,h⟩
  ·obtain⟨v,hv,hr⟩:=hφ.slot t _ hs
   refine⟨v,hv,?_⟩
   obtain⟨g,hg,e⟩:=hr
   obtain⟨g',ty,cur,hv0,hh,hl,h1⟩:=hφ.own o _ ho
   have hgg:g'=g:=by rw[hv0]at hg;simpa[vblock]using hg
   subst hgg
   have hge:K.w0.heap.size≤g':=(hφ.mine o _ g' ho (.inl hg)).resolve_right (hM g')
   have hlt:g'<w.heap.size:=(Array.getElem?_eq_some_iff.1 hh).1
   refine⟨g',0,cur.toList,by rw[e],⟨⟨.inl hge,fun q c hq hvq=> ?_⟩,fun _=>K.hF _ hge⟩,hlt,Rep.monoL (fun b hb _=>⟨hZ fr b hb,rfl⟩) hl,h1,fun j v hj=> ?_⟩
   ·obtain⟨hne,hq'⟩:=hown' q c hq
    exact hne (hφ.dis q o c _ g' hq' ho hvq (.inl hg))
   ·refine soft_row hh ?_
    rw[Nat.zero_add,cell_of_row _ g' j cur ty (0,0) hh]
    simpa using hj
  ·obtain⟨v,hv,hr⟩:=hφ.slot t sv h
   exact⟨v,hv,hr.mono (hφ.sin t sv h) (fun f b hb _=>⟨hZ f b hb,rfl⟩) (fun _ _=>rfl)⟩
 ·intro t sv hsv
  rcases slot_put t sv hsv with ⟨rfl,rfl⟩|⟨_,h⟩
  ·trivial
  ·exact hφ.sin t sv h
def fixSl (vs:Nat→Value)(sl:List (Nat×SV)):List Nat→List (Nat×SV)
 | []=>[]
 |s::ss=>match lk sl s with
  |some (.val _ p)=>(s,.fix (vs s) p)::fixSl vs sl ss
  |_=>fixSl vs sl ss
def oldSl (sl:List (Nat×SV)):List Nat→List (Nat×SV)
 | []=>[]
 |s::ss=>match lk sl s with
  |some (.val _ p)=>(s,mkv false p)::oldSl sl ss
  |some (.fptr _ cs)=>(s,.fptr false cs)::oldSl sl ss
  |_=>oldSl sl ss
theorem lk_fixSl {vs:Nat→Value}{sl l2:List (Nat×SV)}{s:Nat}{sv:SV}: ∀{ss:List Nat},lk (fixSl vs sl ss++l2) s=some sv→(∃fr p,s∈ss∧lk sl s=some (.val fr p)∧sv= .fix (vs s) p)∨lk l2 s=some sv
 | [],h=> .inr h
 |q::ss,h=>by
  simp only[fixSl]at h
  split at h
  ·rename_i fr p hq
   rw[List.cons_append,lk_cons]at h
   by_cases e:q=s
   ·subst e
    rw[if_pos rfl]at h
    exact .inl ⟨fr,p,.head _,hq,(Option.some.inj h).symm⟩
   ·rw[if_neg e]at h
    rcases lk_fixSl h with ⟨fr,p,hm,h⟩|h
    ·exact .inl ⟨fr,p,.tail _ hm,h⟩
    ·exact .inr h
  ·rcases lk_fixSl h with ⟨fr,p,hm,h⟩|h
   ·exact .inl ⟨fr,p,.tail _ hm,h⟩
   ·exact .inr h
theorem lk_oldSl {sl:List (Nat×SV)}{s:Nat}{sv:SV}: ∀{ss:List Nat},lk (oldSl sl ss) s=some sv→(∃fr p,lk sl s=some (.val fr p)∧sv=mkv false p)∨(∃fr cs,lk sl s=some (.fptr fr cs)∧sv= .fptr false cs)
 | [],h=>by simp[oldSl,lk]at h
 |q::ss,h=>by
  simp only[oldSl]at h
  split at h
  ·rename_i fr p hq
   rw[lk_cons]at h
   by_cases e:q=s
   ·subst e
    rw[if_pos rfl]at h
    exact .inl ⟨fr,p,hq,(Option.some.inj h).symm⟩
   ·rw[if_neg e]at h
    exact lk_oldSl h
  ·rename_i fr p hq
   rw[lk_cons]at h
   by_cases e:q=s
   ·subst e
    rw[if_pos rfl]at h
    exact .inr ⟨fr,p,hq,(Option.some.inj h).symm⟩
   ·rw[if_neg e]at h
    exact lk_oldSl h
  ·exact lk_oldSl h
def Ctx.snap (K:Ctx)(w:World):Ctx:=⟨K.P,w,fun b=>K.w0.heap.size≤b∨K.Z0 b,fun _=>False,K.n,fun b=>w.heap.size≤b,fun _ h=>h,K.lo,K.vs,K.df⟩
theorem Rel.unsnap {K:Ctx}{w1:World}(hk:Kept K.M K.w0 w1){E:St}{a:Act}{w:World}(h:Rel (K.snap w1) E a w):Rel K E a w:=by
 obtain⟨φ,hφ⟩:=h
 have hk2:=hφ.kept
 have hsz:K.w0.heap.size≤w1.heap.size:=hk.size
 have hZ: ∀f b,Zf (K.snap w1) E.f φ f b→Zf K E.f φ f b:=by
  rintro f b ⟨⟨h1,h2⟩,h3⟩
  refine⟨⟨?_,h2⟩,fun hf=>K.hF _ (Nat.le_trans hsz (h3 hf))⟩
  rcases h1 with h1|h1
  ·exact .inl (Nat.le_trans hsz h1)
  ·exact h1
 refine⟨φ,hφ.df,hφ.sz,hφ.old,⟨hk2.os.trans hk.os,hk2.tape.trans hk.tape,hk2.output.trans hk.output,Nat.le_trans hk.size hk2.size,fun b hb hm=>(hk2.block b (Nat.lt_of_lt_of_le hb hsz) (fun hm=>hm)).trans (hk.block b hb hm)⟩,?_,?_,hφ.inU,hφ.dis,?_,hφ.sin⟩
 ·exact fun o c ho=>(hφ.own o c ho).mono (fun _ _=>rfl) fun f b hb _=>⟨hZ f b hb,rfl⟩
 ·exact fun o c g ho hg=>(hφ.mine o c g ho hg).elim (fun h=> .inl (Nat.le_trans hsz h)) (fun h=>h.elim)
 ·intro s sv hs
  obtain⟨v,hv,hr⟩:=hφ.slot s sv hs
  exact⟨v,hv,hr.mono (hφ.sin s sv hs) (fun f b hb _=>⟨hZ f b hb,rfl⟩) (fun _ _=>rfl)⟩
theorem T.snap {K:Ctx}{c:Code}{sl:List (Nat×SV)}{nx:Nat}{Q:Exit→St→Prop}(fx keep:List Nat)
  (h: ∀(w1:World) (vs:Nat→Value),(∀s fr p,lk sl s=some (.val fr p)→Rep w1 (K.snap w1).Z0 (vs s) p)→T (K.snap w1) c ⟨fixSl vs sl fx++oldSl sl keep,[],0⟩ Q):T K c ⟨sl,[],nx⟩ Q:=by
 refine⟨fun a w hr=> ?_⟩
 obtain⟨φ,hφ⟩:=hr
 let vs:Nat→Value:=fun s=>a.tmps.getD s undef
 have hno: ∀o c,(St.mk sl [] nx).f.own o≠some c:=by intro o c ho;simp[St.f,lk]at ho
 have hZ1: ∀f b,Zf K (St.mk sl [] nx).f φ f b→(K.snap w).Z0 b:=fun f b hb=>hb.1.1
 have hvs: ∀s fr p,lk sl s=some (.val fr p)→a.tmps.getD s undef=vs s∧Rep w (K.snap w).Z0 (vs s) p:=by
  intro s fr p hs
  obtain⟨v,hv,hr⟩:=hφ.slot s _ hs
  have e:vs s=v:=hv
  rw[e]
  exact⟨hv,Rep.mono (fun b hb _=>⟨hZ1 _ b hb,rfl⟩) hr⟩
 have hk:=(h w vs fun s fr p hs=>(hvs s fr p hs).2).out a w ?_
 ·refine wp_mono hk ?_
  rintro e a' w' ⟨hf,E,hq,hr⟩
  exact⟨hf,E,hq,hr.unsnap hφ.kept⟩
 ·have hZ: ∀b,(K.snap w).Z0 b→Zf (K.snap w) (St.mk (fixSl vs sl fx++oldSl sl keep) [] 0).f φ false b:=fun b hb=>⟨⟨.inr hb,fun o c ho=>by simp[St.f,lk]at ho⟩,fun e=>by cases e⟩
  refine⟨φ,hφ.df,hφ.sz,hφ.old,⟨rfl,rfl,rfl,Nat.le_refl _,fun _ _ _=>rfl⟩,?_,?_,?_,?_,?_,?_⟩
  ·intro o c ho;simp[St.f,lk]at ho
  ·intro o c g ho;simp[St.f,lk]at ho
  ·intro o c ho;simp[St.f,lk]at ho
  ·intro o o' c c' g ho;simp[St.f,lk]at ho
  ·intro s sv hs
   rcases lk_fixSl hs with ⟨fr,p,_,h1,rfl⟩|h2
   ·obtain⟨h2,h3⟩:=hvs s fr p h1
    exact⟨vs s,h2,rfl,Rep.mono (fun b hb _=>⟨hZ b hb,rfl⟩) h3⟩
   ·rcases lk_oldSl h2 with ⟨fr,p,h1,rfl⟩|⟨fr,cs,h1,rfl⟩
    ·obtain⟨h2,h3⟩:=hvs s fr p h1
     exact⟨vs s,h2,(mkv_sound (U:=fun _=>True) (Rep.mono (fun b hb _=>⟨hZ b hb,rfl⟩) h3)).1⟩
    ·obtain⟨v,hv,b,o,xs,e,hz,hb,hl,h4,h5⟩:=hφ.slot s _ h1
     exact⟨v,hv,b,o,xs,e,hZ b (hZ1 _ b hz),hb,Rep.monoL (fun b hb _=>⟨hZ b (hZ1 _ b hb),rfl⟩) hl,h4,h5⟩
  ·intro s sv hs
   rcases lk_fixSl hs with ⟨fr,p,_,h1,rfl⟩|h2
   ·trivial
   ·rcases lk_oldSl h2 with ⟨fr,p,h1,rfl⟩|⟨fr,cs,h1,rfl⟩
    ·exact mkv_in _ _
    ·trivial
inductive Sh:PV→PV→Prop
 |bool (b):Sh (.bool b) (.bool b)
 |int (k n m):Sh (.int k n) (.int k m)
 |str (s):Sh (.str s) (.str s)
 |agg (cs ds):L2 Sh cs ds→Sh (.agg cs) (.agg ds)
 |sl (rs ts):L2 (L2 Sh) rs ts→Sh (.sl rs) (.sl ts)
 |fn (f as bs cs ds):L2 Sh as cs→L2 Sh bs ds→Sh (.fn f as bs) (.fn f cs ds)
 |nilp:Sh .nilp .nilp
 |nilf:Sh .nilf .nilf
 |ptr (cs ds):L2 Sh cs ds→Sh (.ptr cs) (.ptr ds)
 |raw (u v):Sh (.raw u) (.raw v)
theorem Sh.one {p q:PV}(h:Sh p q):q.one=p.one:=by cases h<;>rfl
theorem L2.unflat {α β:Type}{R:α→β→Prop}: ∀(rows:List (List α)) (ps:List β),L2 R rows.flatten ps→∃rows',L2 (L2 R) rows rows'∧rows'.flatten=ps
 | [],ps,h=>by cases h;exact⟨[],.nil,rfl⟩
 |r::rows,ps,h=>by
  have hl: ∀(r:List α) (xs:List α) (ps:List β),L2 R (r++xs) ps→∃a b,ps=a++b∧L2 R r a∧L2 R xs b:=by
   intro r
   induction r with
   |nil=>intro xs ps h;exact⟨[],ps,rfl,.nil,h⟩
   |cons x r ih=>
    intro xs ps h
    cases h with
    |cons h1 h2=>
     obtain⟨a,b,rfl,h3,h4⟩:=ih _ _ h2
     exact⟨_::a,b,rfl,.cons h1 h3,h4⟩
  obtain⟨a,b,rfl,h1,h2⟩:=hl r _ ps h
  obtain⟨rows',h3,rfl⟩:=L2.unflat rows b h2
  exact⟨a::rows',.cons h1 h3,rfl⟩
theorem L2.lens {α β:Type}{R:α→β→Prop}{n:Nat}{rows:List (List α)}{rows':List (List β)}(h:L2 (L2 R) rows rows')(hl: ∀r∈rows,r.length=n): ∀r∈rows',r.length=n:=by
 induction h with
 |nil=>simp
 |cons h1 _ ih=>
  intro r hr
  rcases List.mem_cons.1 hr with rfl|hr
  ·rw[←h1.length];exact hl _ (.head _)
  ·exact ih (fun r hr=>hl r (.tail _ hr)) r hr
theorem L2.ones {rows rows':List (List PV)}(h:L2 (L2 Sh) rows rows')(hl: ∀r∈rows,∀p∈r,p.one=true): ∀r∈rows',∀p∈r,p.one=true:=by
 induction h with
 |nil=>simp
 | @cons a b _ _ h1 _ ih=>
  intro r hr
  rcases List.mem_cons.1 hr with rfl|hr
  ·have h2:=hl a (.head _)
   clear ih hl hr
   induction h1 with
   |nil=>simp
   |cons h3 _ ih2=>
    intro p hp
    rcases List.mem_cons.1 hp with rfl|hp
    ·rw[h3.one];exact h2 _ (.head _)
    ·exact ih2 (fun p hp=>h2 p (.tail _ hp)) p hp
  ·exact ih (fun r hr=>hl r (.tail _ hr)) r hr
section
variable {w:World}{Z:Nat→Prop}{b0 o0:Nat}{k0:IntKind}{n0 m0:Int}
theorem poke_cell (hc:w.cell? ⟨b0,o0,none⟩=some (.int k0 n0)){a:Addr}{v:Value}(h:Soft w a v): ∃v',Soft (w.setCell ⟨b0,o0,none⟩ (.int k0 m0)) a v'∧(v'=v∨(v= .int k0 n0∧v'= .int k0 m0)):=by
 have hfz:(w.setCell ⟨b0,o0,none⟩ (.int k0 m0)).frozen? a=false:=by
  rw[←h.2]
  exact World.frozen?_setCell _ _ _ _
 by_cases e:(⟨b0,o0,none⟩:Addr)=a
 ·subst e
  have e2:v= .int k0 n0:=by
   have h1:=h.1
   rw[hc]at h1
   exact(Option.some.inj h1).symm
  exact⟨_,⟨World.cell?_setCell_same _ _ _ hc,hfz⟩,.inr ⟨e2,rfl⟩⟩
 ·exact⟨v,⟨by rw[World.cell?_setCell_other _ _ _ _ e];exact h.1,hfz⟩,.inl rfl⟩
theorem poke_list (hc:w.cell? ⟨b0,o0,none⟩=some (.int k0 n0)){w':World}{Z':Nat→Prop}{b:Nat}: ∀(xs:List Value) (ps:List PV) (off:Nat),(∀j v,xs[j]? =some v→Soft w ⟨b,off+j,none⟩ v)→
  L2 (Rep w Z) xs ps→L2 (fun v p=> ∃p',Sh p p'∧Rep w' Z' v p') xs ps→∃xs' ps',(∀j v,xs'[j]? =some v→Soft (w.setCell ⟨b0,o0,none⟩ (.int k0 m0)) ⟨b,off+j,none⟩ v)∧L2 (Rep w' Z') xs' ps'∧L2 Sh ps ps'
 | [],_,off,_,.nil,.nil=>⟨[],[],by simp,.nil,.nil⟩
 |x::xs,p::ps,off,h,.cons h0 h0r,.cons h1 h2=>by
  obtain⟨xs',ps',h3,h4,h5⟩:=poke_list hc xs ps (off+1) (fun j v hj=>by have:=h (j+1) v (by simpa using hj);rwa[show off+(j+1)=off+1+j by omega]at this) h0r h2
  obtain⟨v',h6,h7⟩:=poke_cell (m0:=m0) hc (h 0 x rfl)
  obtain⟨p',h8,h9⟩:=h1
  have: ∃p'',Sh p p''∧Rep w' Z' v' p'':=by
   rcases h7 with rfl|⟨rfl,rfl⟩
   ·exact⟨p',h8,h9⟩
   ·cases h0 with
    |int _ _=>exact⟨.int k0 m0,.int _ _ _,.int _ _⟩
    |raw _ hu=>exact⟨.raw (.int k0 m0),.raw _ _,.raw _ rfl⟩
  obtain⟨p'',h10,h11⟩:=this
  refine⟨v'::xs',p''::ps',fun j v hj=> ?_,.cons h11 h4,.cons h10 h5⟩
  cases j with
  |zero=>simp at hj;subst hj;exact h6
  |succ j=>have:=h3 j v (by simpa using hj);rwa[show off+(j+1)=off+1+j by omega]
theorem Rep.poke {Z':Nat→Prop}(hz: ∀b,Z b→b<w.heap.size→Z' b)(hc:w.cell? ⟨b0,o0,none⟩=some (.int k0 n0)){v:Value}{p:PV}(hr:Rep w Z v p): ∃p',Sh p p'∧Rep (w.setCell ⟨b0,o0,none⟩ (.int k0 m0)) Z' v p':=by
 have key: ∀(vs:List Value) (ps:List PV),L2 (fun v p=> ∃p',Sh p p'∧Rep (w.setCell ⟨b0,o0,none⟩ (.int k0 m0)) Z' v p') vs ps→∃ps',L2 Sh ps ps'∧L2 (Rep (w.setCell ⟨b0,o0,none⟩ (.int k0 m0)) Z') vs ps':=by
  intro vs ps h
  induction h with
  |nil=>exact⟨[],.nil,.nil⟩
  |cons h1 _ ih=>
   obtain⟨p',h2,h3⟩:=h1
   obtain⟨ps',h4,h5⟩:=ih
   exact⟨p'::ps',.cons h2 h4,.cons h3 h5⟩
 refine Rep.rec (motive_1:=fun v p _=> ∃p',Sh p p'∧Rep (w.setCell ⟨b0,o0,none⟩ (.int k0 m0)) Z' v p') (motive_2:=fun vs ps _=>L2 (fun v p=> ∃p',Sh p p'∧Rep (w.setCell ⟨b0,o0,none⟩ (.int k0 m0)) Z' v p') vs ps) ?_ ?_ ?_ ?_ ?_ ?_ ?_ ?_ ?_ ?_ ?_ ?_ ?_ ?_ hr
 ·exact fun b=>⟨_,.bool b,.bool b⟩
 ·exact fun k n=>⟨_,.int k n n,.int k n⟩
 ·exact fun s=>⟨_,.str s,.str s⟩
 ·intro vs cs _ h1 ih
  obtain⟨ps',h2,h3⟩:=key vs cs ih
  refine⟨_,.agg cs ps' h2,.agg vs ps' h3 ?_⟩
  have:=L2.ones (.cons h2 .nil) (by simpa using h1)
  simpa using this
 ·exact⟨_,.sl [] [] .nil,.nilsl⟩
 ·exact fun a cap hc=>⟨_,.sl [] [] .nil,.slE a cap hc⟩
 ·intro b off cap sz rows xs hzb hb h1 h2 h3 h4 h5 h6 ih
  obtain⟨xs',ps',h7,h8,h9⟩:=poke_list (m0:=m0) hc xs rows.flatten off h3 h6 ih
  obtain⟨rows',h10,h11⟩:=L2.unflat rows ps' h9
  have hlen:=h10.length
  refine⟨_,.sl rows rows' h10,?_⟩
  rw[hlen]
  exact .sl b off cap sz rows' xs' (hz b hzb hb) (by simpa using hb) (h10.lens h1) (h10.ones h2) h7 (by omega) h5 (by rw[h11];exact h8)
 ·intro f vs us first caps _ _ ih1 ih2
  obtain⟨ps,h1,h2⟩:=key vs first ih1
  obtain⟨qs,h3,h4⟩:=key us caps ih2
  exact⟨_,.fn f first caps ps qs h1 h3,.fn f vs us ps qs h2 h4⟩
 ·exact⟨_,.nilp,.nilp⟩
 ·exact⟨_,.nilf,.nilf⟩
 ·intro b o cells xs hzb hb h1 h2 h3 ih
  obtain⟨xs',ps',h4,h5,h6⟩:=poke_list (m0:=m0) hc xs cells o h2 h3 ih
  refine⟨_,.ptr cells ps' h6,.ptr b o ps' xs' (hz b hzb hb) (by simpa using hb) ?_ h4 h5⟩
  have:=L2.ones (.cons h6 .nil) (by simpa using h1)
  simpa using this
 ·exact fun u hu=>⟨_,.raw u u,.raw u hu⟩
 ·exact .nil
 ·exact fun _ _ ih1 ih2=> .cons ih1 ih2
end
def fxSl (sl:List (Nat×SV)):List Nat→List (Nat×SV)
 | []=>[]
 |s::ss=>match lk sl s with
  |some (.fix v p)=>(s,.fix v p)::fxSl sl ss
  |_=>fxSl sl ss
def flSl (sl:List (Nat×SV)):List Nat→List (Nat×SV)
 | []=>[]
 |s::ss=>match lk sl s with
  |some (.val _ p)=>match p.flat with
   |true=>(s,.val true p)::flSl sl ss
   |false=>flSl sl ss
  |_=>flSl sl ss
theorem lk_fxSl {sl l2:List (Nat×SV)}{s:Nat}{sv:SV}: ∀{ss:List Nat},lk (fxSl sl ss++l2) s=some sv→(∃v p,s∈ss∧lk sl s=some (.fix v p)∧sv= .fix v p)∨lk l2 s=some sv
 | [],h=> .inr h
 |q::ss,h=>by
  simp only[fxSl]at h
  split at h
  ·rename_i v p hq
   rw[List.cons_append,lk_cons]at h
   by_cases e:q=s
   ·subst e
    rw[if_pos rfl]at h
    exact .inl ⟨v,p,.head _,hq,(Option.some.inj h).symm⟩
   ·rw[if_neg e]at h
    rcases lk_fxSl h with ⟨v,p,hm,h⟩|h
    ·exact .inl ⟨v,p,.tail _ hm,h⟩
    ·exact .inr h
  ·rcases lk_fxSl h with ⟨v,p,hm,h⟩|h
   ·exact .inl ⟨v,p,.tail _ hm,h⟩
   ·exact .inr h
theorem lk_flSl {sl:List (Nat×SV)}{s:Nat}{sv:SV}: ∀{ss:List Nat},lk (flSl sl ss) s=some sv→∃fr p,lk sl s=some (.val fr p)∧p.flat=true∧sv= .val true p
 | [],h=>by simp[flSl,lk]at h
 |q::ss,h=>by
  simp only[flSl]at h
  split at h
  ·rename_i fr p hq
   split at h
   ·rename_i hf
    rw[lk_cons]at h
    by_cases e:q=s
    ·subst e
     rw[if_pos rfl]at h
     exact⟨fr,p,hq,hf,(Option.some.inj h).symm⟩
    ·rw[if_neg e]at h
     exact lk_flSl h
   ·exact lk_flSl h
  ·exact lk_flSl h
theorem J.tr {K:Ctx}{ops:Array Oper}{o:Oper}{rest:List Oper}{sl:List (Nat×SV)}{nx:Nat}{R:St→Prop}{t:TypeId}{x s:Nat}{y:Operand}{k:IntKind}{n m:Int}{cs:List PV}{fy fr:Bool}{inf:TypeInfo}{D:PV}(fx keep:List Nat)(hM: ∀b,¬K.M b)(hFs: ∀b,K.F b→K.w0.heap.size≤b)
  (ho:o.op= .store t (.tmp x) y) (hg:wants ops (St.mk sl [] nx).f o=some true) (hd:o.dst=none) (hx:lk sl x=some (.fptr true (.int k n::cs))) (hy:(St.mk sl [] nx).f.get y=some (.val fy (.int k m))) (hi:K.P.info? t=some inf) (hs1:inf.size=1)
  (hs:lk sl s=some (.val fr D)) (hfx: ∀q u p,q∈fx→lk sl q=some (.fix u p)→Rep K.w0 K.Z0 u p)
  (q: ∀D',Sh D D'→J K ops false rest ⟨(s,.val fr D')::(fxSl sl fx++flSl sl keep),[],0⟩ R):J K ops false (o::rest) ⟨sl,[],nx⟩ R:=by
 refine⟨TO.mk fun a w Q hr hQ=> ?_⟩
 obtain⟨φ,hφ⟩:=hr
 unfold wpList
 rw[if_pos (wants_sound hφ hg)]
 refine .inl ?_
 obtain⟨v,hv,b,o0,xs,rfl,hz,hb,hl,h1,hsoft⟩:=hφ.slot x _ hx
 obtain⟨xs',rfl⟩: ∃xs',xs= .int k n::xs':=by
  cases hl with
  |cons h1 _=>cases h1;exact⟨_,rfl⟩
 have hcell:=hsoft 0 _ rfl
 rw[Nat.add_zero]at hcell
 have hxe:a.eval (.tmp x)= .pointer (some ⟨b,o0,none⟩):=by simp[Act.eval,hv]
 have hye:a.eval y= .int k m:=by
  have:=(get_sound hφ hy).1
  generalize a.eval y=u at this⊢
  cases this
  rfl
 have hno: ∀i c,(St.mk sl [] nx).f.own i≠some c:=by intro i c hi;simp[St.f,lk]at hi
 have hge:K.w0.heap.size≤b:=hFs b (hz.2 rfl)
 have hrun:(execOp a.eval o).run K.P w= .ok .skip (w.setCell ⟨b,o0,none⟩ (.int k m)):=by
  have hst:(store (⟨b,o0,none⟩:Addr) (.int k m)).run K.P w= .ok () (w.setCell ⟨b,o0,none⟩ (.int k m)):=by
   rw[run_store _ _ _ _ _ rfl,hcell.1]
   simp[hcell.2]
  simp only[execOp,ho,hxe,hye,Instr.storeAt,Instr.sureAddr,Sem.run_bind,Sem.run_pure,Result.andThen_ok,storeVar,run_sizeOf' hi,hs1]
  rw[if_neg (by simp[Value.cells])]
  simp only[Value.cells,storeCells,Sem.run_bind,add_addr,Nat.add_zero,hst,Result.andThen_ok,Sem.run_pure]
 unfold Oper.wp
 rw[hrun]
 have hdst:a.put o.dst undef=a:=by rw[hd];rfl
 have hother: ∀b',b'≠b→(w.setCell ⟨b,o0,none⟩ (.int k m)).heap[b']? =w.heap[b']? :=fun b' hne=>heap_setCell_other w _ b' _ hne
 obtain⟨vs,hvs,hrs⟩:=hφ.slot s _ hs
 obtain⟨D',hsh,hrep⟩:=Rep.poke (Z':=Zf K (St.mk sl [] nx).f φ fr) (m0:=m) (fun b hb _=>hb) hcell.1 hrs
 refine(q D' hsh).out.out _ _ Q ?_ hQ
 rw[hdst]
 have hZ: ∀f b',Zf K (St.mk sl [] nx).f φ f b'→Zf K (St.mk ((s,.val fr D')::(fxSl sl fx++flSl sl keep)) [] 0).f φ f b':=fun f b' hb'=>⟨⟨hb'.1.1,fun i c hi=>by simp[St.f,lk]at hi⟩,hb'.2⟩
 refine⟨φ,hφ.df,hφ.sz,hφ.old,⟨hφ.kept.os,hφ.kept.tape,hφ.kept.output,by simpa using hφ.kept.size,fun b' hb' hm=>(hother b' (by omega)).trans (hφ.kept.block b' hb' hm)⟩,?_,?_,?_,?_,?_,?_⟩
 ·intro i c hi;simp[St.f,lk]at hi
 ·intro i c g hi;simp[St.f,lk]at hi
 ·intro i c hi;simp[St.f,lk]at hi
 ·intro i i' c c' g hi;simp[St.f,lk]at hi
 ·intro i sv hi
  rcases slot_put i sv hi with ⟨rfl,rfl⟩|⟨_,h2⟩
  ·exact⟨vs,hvs,Rep.mono (fun b' hb' _=>⟨hZ _ b' hb',rfl⟩) hrep⟩
  ·rcases lk_fxSl h2 with ⟨u,p,hm,h3,rfl⟩|h3
   ·obtain⟨v,hv,e,_⟩:=hφ.slot i _ h3
    refine⟨v,hv,e,?_⟩
    rw[e]
    refine Rep.mono (fun b' hb' hlt=>⟨⟨⟨.inr hb',fun i c hi=>by simp[St.f,lk]at hi⟩,fun e=>by cases e⟩,?_⟩) (hfx i u p hm h3)
    exact(hother b' (by omega)).trans (hφ.kept.block b' hlt (hM b'))
   ·obtain⟨fr',p,h4,hf,rfl⟩:=lk_flSl h3
    obtain⟨v,hv,hr⟩:=hφ.slot i _ h4
    refine⟨v,hv,?_⟩
    have hr:Rep w _ v p:=hr
    show Rep _ _ v p
    cases hr<;>first|exact .bool _|exact .int _ _|exact .str _|exact .nilp|exact .nilf|(refine .raw _ ?_;assumption)|(simp[PV.flat]at hf)
 ·intro i sv hi
  rcases slot_put i sv hi with ⟨rfl,rfl⟩|⟨_,h2⟩
  ·trivial
  ·rcases lk_fxSl h2 with ⟨u,p,hm,h3,rfl⟩|h3
   ·trivial
   ·obtain⟨fr',p,h4,hf,rfl⟩:=lk_flSl h3
    trivial
theorem Rel.wk {K:Ctx}{sl:List (Nat×SV)}{ow:List (Nat×Option Own)}{nx:Nat}{o:Nat}{e:TypeId}{sz:Nat}{rows:List (List PV)}(ho:(St.mk sl ow nx).f.own o=some (.sl e sz true rows))(a:Act)(w:World)(h:Rel K ⟨sl,ow,nx⟩ a w):
  Rel K ⟨sl,(o,some (.sl e sz false rows))::ow,nx⟩ a w:=by
 obtain⟨φ,hφ⟩:=h
 have hown': ∀q c,(St.mk sl ((o,some (.sl e sz false rows))::ow) nx).f.own q=some c→(q=o∧c= .sl e sz false rows)∨(q≠o∧(St.mk sl ow nx).f.own q=some c):=by
  intro q c hq
  simp only[St.f,lk_cons]at hq
  by_cases e:o=q
  ·rw[if_pos e]at hq;exact .inl ⟨e.symm,(Option.some.inj hq).symm⟩
  ·rw[if_neg e]at hq;exact .inr ⟨Ne.symm e,hq⟩
 have hdom: ∀q c,(St.mk sl ((o,some (.sl e sz false rows))::ow) nx).f.own q=some c→∃c',(St.mk sl ow nx).f.own q=some c':=by
  intro q c hq
  rcases hown' q c hq with ⟨rfl,_⟩|⟨_,h⟩
  ·exact⟨_,ho⟩
  ·exact⟨_,h⟩
 have hZ: ∀f b,Zf K (St.mk sl ow nx).f φ f b→Zf K (St.mk sl ((o,some (.sl e sz false rows))::ow) nx).f φ f b:=
  fun f b hb=>⟨⟨hb.1.1,fun q c hq=>by obtain⟨c',hq'⟩:=hdom q c hq;exact hb.1.2 q c' hq'⟩,hb.2⟩
 refine⟨φ,hφ.df,hφ.sz,hφ.old,hφ.kept,?_,?_,?_,?_,?_,?_⟩
 ·intro q c hq
  rcases hown' q c hq with ⟨rfl,rfl⟩|⟨_,h⟩
  ·obtain⟨xs,hwn,hl,h1,h2⟩:=hφ.own q _ ho
   exact⟨xs,hwn,hl.imp fun _ _ hp=>Rep.mono (fun b hb _=>⟨hZ false b ⟨hb.1,fun e=>by cases e⟩,rfl⟩) hp,h1,h2⟩
  ·exact(hφ.own q c h).mono (fun _ _=>rfl) fun f b hb _=>⟨hZ f b hb,rfl⟩
 ·intro q c g hq
  obtain⟨c',hq'⟩:=hdom q c hq
  exact hφ.mine q c' g hq'
 ·intro q c hq
  obtain⟨c',hq'⟩:=hdom q c hq
  exact hφ.inU q c' hq'
 ·intro q q' c c' g hq hq'
  obtain⟨c1,hq1⟩:=hdom q c hq
  obtain⟨c2,hq2⟩:=hdom q' c' hq'
  exact hφ.dis q q' c1 c2 g hq1 hq2
 ·intro t sv hsv
  obtain⟨v,hv,hr⟩:=hφ.slot t sv hsv
  exact⟨v,hv,hr.mono (hφ.sin t sv hsv) (fun f b hb _=>⟨hZ f b hb,rfl⟩) (fun _ _=>rfl)⟩
 ·exact hφ.sin
end Go.Proofs.YtlcobmehnaeebaaGreat
