/- The texts CoreZE, CoreQ of the workplace, joined. -/
import Derived.Test.YtlcobmehnaeebaaGreatB3
import Derived.ChangeSlices
import Derived.ChangeArms
import Derived.SizedLaws
import Derived.DataElems
namespace Go.Proofs.YtlcobmehnaeebaaGreat
open Go Go.RowKit
set_option linter.unusedVariables false
set_option linter.unusedSimpArgs false
def onlyS {σ:Type}(Es:σ→St)(e:Exit)(E:St):Prop:=e= .normal∧∃(s:σ) (keep os:List Nat),dup (idsOf E.f os)=false∧canonE E keep os=Es s
theorem T.mids {σ:Type}{K:Ctx}{x y:Code}{E:St}{Q:Exit→St→Prop}(Es:σ→St)(hx:T K x E (onlyS Es))(hy: ∀s,T K y (Es s) Q):T K (.seq x y) E Q:=by
 refine .seq (hx.mono ?_)
 rintro e E2 ⟨rfl,s,keep,os,hd,he⟩
 have:=hy s
 rw[←he]at this
 exact T.canon hd this
section
variable {K:Ctx}{ops:Array Oper}{dr:Bool}{o:Oper}{rest:List Oper}{sl:List (Nat×SV)}{ow:List (Nat×Option Own)}{nx:Nat}{R:St→Prop}{d:Nat}
theorem J.xs {t:TypeId}{x i:Operand}{f1 f2:Bool}{s:ByteArray}{ki:IntKind}{n:Int}{b:UInt8}(ho:o.op= .index t x i)(hg:wants ops (St.mk sl ow nx).f o=some true)(hd:o.dst=some d)(hlt:K.can d=true)(hx:(St.mk sl ow nx).f.get x=some (.val f1 (.str s)))(hi:(St.mk sl ow nx).f.get i=some (.val f2 (.int ki n)))
  (hu:K.P.underlying t=some .string) (h0:0≤n) (hb:s[n.toNat]? =some b) (k:J K ops dr rest ⟨(d,.val true (.int .u8 b.toNat))::sl,ow,nx⟩ R):J K ops dr (o::rest) ⟨sl,ow,nx⟩ R:=by
 refine .does hg hd hlt (.gen (xs:=[x,i]) (l:=[.str s,.int ki n]) ?_ ?_ ?_) k
 ·rw[ho];simp[Op.operands]
 ·simp[fzList,hx,hi,SV.ff]
 ·intro a w hr
  cases hr with
  |cons h1 hr=>
  cases hr with
  |cons h2 _=>
  generalize hv1:a.eval x=v1 at h1
  generalize hv2:a.eval i=v2 at h2
  cases h1
  cases h2
  refine⟨.int .u8 b.toNat,?_,fun _=> .int _ _⟩
  simp only[execOp,ho,hv1,hv2,Instr.index,asIntOf,Sem.run_bind,Sem.run_pure,Result.andThen_ok,run_underlying hu,if_pos h0,hb]
theorem J.ss {t:TypeId}{x y:Operand}{f1 f2:Bool}{s:ByteArray}{ky:IntKind}{h:Int}(n:Nat)(ho:o.op= .slice t x none (some y) none)(hg:wants ops (St.mk sl ow nx).f o=some true)(hd:o.dst=some d)(hlt:K.can d=true)(hx:(St.mk sl ow nx).f.get x=some (.val f1 (.str s)))(hy:(St.mk sl ow nx).f.get y=some (.val f2 (.int ky h)))
  (hu:K.P.underlying t=some .string) (hh:h=(n:Nat)) (hn:n≤s.size) (k:J K ops dr rest ⟨(d,.val true (.str (s.extract 0 n)))::sl,ow,nx⟩ R):J K ops dr (o::rest) ⟨sl,ow,nx⟩ R:=by
 subst hh
 refine .does hg hd hlt (.gen (xs:=[x,y]) (l:=[.str s,.int ky n]) ?_ ?_ ?_) k
 ·rw[ho];simp[Op.operands]
 ·simp[fzList,hx,hy,SV.ff]
 ·intro a w hr
  cases hr with
  |cons h1 hr=>
  cases hr with
  |cons h2 _=>
  generalize hv1:a.eval x=v1 at h1
  generalize hv2:a.eval y=v2 at h2
  cases h1
  cases h2
  refine⟨.string (s.extract 0 n),?_,fun _=> .str _⟩
  have hb2:(Instr.sliceBounds false s.size s.size none (some (.int ky n)) none).run K.P w= .ok (0,n,s.size) w:=by
   simp only[Instr.sliceBounds,Sem.run_bind,Sem.run_pure,Result.andThen_ok]
   rw[run_sliceBound w ky n s.size _ (by omega) (by omega)]
   rfl
  simp only[execOp,ho,hv1,hv2,Sem.run_bind,Instr.sliceAt,Instr.slice,run_underlying hu,Result.andThen_ok,Option.map_none,Option.map_some,Option.isSome_none,Bool.false_eq_true,if_false,hb2,Sem.run_pure]
theorem J.adf {args:Array Operand}{tys:Array TypeId}{s y:Operand}{t e:TypeId}{q sz:Nat}{fr fy:Bool}{rows rows2:List (List PV)}{sy:SV}{inf:TypeInfo}{z:Value}(hM: ∀b,¬K.M b)
  (ho:o.op= .call { callee:= .builtin .append,args:=args,argTypes:=tys }) (ha:args.toList=[s,y]) (ht:tys.toList=[t,t]) (hg:wants ops (St.mk sl ow nx).f o=some true) (hd:o.dst=some d) (hlt:K.can d=true)
  (hs:(St.mk sl ow nx).f.get s=some (.ref q)) (hq:(St.mk sl ow nx).f.own q=some (.sl e sz fr rows)) (hy:(St.mk sl ow nx).f.get y=some sy) (hp:(St.mk sl ow nx).f.pvf sy=some (fy,.sl rows2))
  (hu:K.P.underlying t=some (.slice e)) (hi:K.P.info? e=some inf) (hsz:inf.size=sz) (hz:inf.zero=some z) (hzs:z.cells.size=sz) (h0:Nat.blt 0 sz=true) (hb1:Nat.ble 1 inf.bytes=true)
  (hl2: ∀r∈rows2,r.length=sz) (hby:(rows.length+rows2.length)*inf.bytes≤140737488355328)
  (k:J K ops true rest ⟨(d,.val (fr&&fy) (.sl (rows++rows2)))::sl,(q,none)::ow,nx⟩ R):J K ops true (o::rest) ⟨sl,ow,nx⟩ R:=by
 obtain⟨E',h1,h2⟩:=k.out
 refine⟨E',?_,h2⟩
 have hro:RO K ops (St.mk sl ow nx).f o ⟨some d,.val (fr&&fy) (.sl (rows++rows2)),[],nx,some (q,none)⟩:= .appf hg hd hlt hM (.own ho ha ht hs hq hy hp hu hi hsz hz hzs (by simpa[Nat.blt_eq]using h0) (Nat.le_of_ble_eq_true hb1) hl2 hby)
 refine TD.step (r:=⟨some d,.val (fr&&fy) (.sl (rows++rows2)),[],nx,some (q,none)⟩) hro ?_
 have e1:upd (St.mk sl ow nx).f ⟨some d,.val (fr&&fy) (.sl (rows++rows2)),[],nx,some (q,none)⟩=(St.mk ((d,.val (fr&&fy) (.sl (rows++rows2)))::sl) ((q,none)::ow) nx).f:=by
  refine EnvF.ext (fun s=> ?_) (fun i=> ?_)
  ·simp only[upd,St.f,lk_cons,Option.some.injEq]
  ·simp only[upd,St.f,lk_cons]
   by_cases e1:i=q
   ·rw[if_pos e1,if_pos e1.symm];rfl
   ·rw[if_neg e1,if_neg (Ne.symm e1)];exact addOwn_nil _ _ _
 rw[e1]
 exact h1
end
end Go.Proofs.YtlcobmehnaeebaaGreat
namespace Go.Proofs.YtlcobmehnaeebaaGreat
open Go Go.RowKit
set_option linter.unusedVariables false
set_option linter.unusedSimpArgs false
theorem nf {w:World}{ps qs:List MemPlace}(h:w.noneFrozen ps)(hs: ∀p∈qs,p∈ps): ∀p∈qs,MemPlace.frozenIn w p=false:=by
 intro p hp
 cases p with
 |cell b off=>exact h _ _ (hs _ hp)
 |map b=>rfl
def Opens {H:Type}(henc:TypeId×Value→H)(P:Program)(w:World)(t:TypeId){α:Type}(enc:α→List PV)(good:α→Prop):Prop:=
 ∀(fuel:Nat) (cs:List Value) (x:DataW H×List MemPlace),DataW.trod henc P w 0 (fun _=>true) true fuel t cs=some x→(DataW.weights P t x.1).all (· ≤reachBytes)=true→(∀p∈x.2,MemPlace.frozenIn w p=false)→
  ∃a,L2 (Rep w fun _=>True) cs (enc a)∧good a
section
variable {H:Type}{henc:TypeId×Value→H}{P:Program}{w:World}
theorem opens_int {t:TypeId}(hu:P.underlying t=some (.int .i64)):Opens henc P w t cI (fun n=> -9223372036854775808≤n∧n≤9223372036854775807):=by
 intro fuel cs x h _ _
 obtain⟨n,rfl,_,hw⟩:=DataW.trod_int hu h
 refine⟨n,.cons (.int _ _) .nil,?_⟩
 simp only[Lit.wf,Bool.and_eq_true,decide_eq_true_eq]at hw
 exact hw
theorem opens_slice {t e:TypeId}{α:Type}{enc:α→List PV}{good:α→Prop}(hu:P.underlying t=some (.slice e))(ho:Opens henc P w e enc good)(hl: ∀a,(enc a).length=P.cellsOf e)(hpos:0<P.cellsOf e)(h1: ∀a,∀p∈enc a,p.one=true):
  Opens henc P w t (fun l:List α=>[.sl (l.map enc)]) (fun l=>l.length*P.bytesOf e≤reachBytes∧∀a∈l,good a):=by
 intro fuel cs x h hw hpl
 rcases DataW.trod_slice hu h with ⟨rfl,rfl⟩|⟨a,len,cap,elems,rest,n,rfl,rfl,rfl,_,hlc,hcm,hlen,hel,_,_⟩
 ·exact⟨[],.cons .nilsl .nil,by simp,by simp⟩
 ·simp only[DataW.weights,hu,List.all_cons,List.all_append,Bool.and_eq_true,decide_eq_true_eq]at hw
  obtain⟨hb,hwe,_⟩:=hw
  have hwall: ∀(l:List (DataW H×List MemPlace)),(DataW.weightsAll P e (l.map (·.1))).all (· ≤reachBytes)=true→∀y∈l,(DataW.weights P e y.1).all (· ≤reachBytes)=true:=by
   intro l
   induction l with
   |nil=>intro _ y hy;cases hy
   |cons z l ih=>
    intro hz y hy
    simp only[List.map_cons,DataW.weightsAll,List.all_append,Bool.and_eq_true]at hz
    rcases List.mem_cons.1 hy with rfl|hy
    ·exact hz.1
    ·exact ih hz.2 y hy
  have each: ∀i,i<len→∃(ys:List Value) (b:α),w.cells? 0 (a.add (i*P.cellsOf e)) (P.cellsOf e)=some ys∧L2 (Rep w fun _=>True) ys (enc b)∧good b:=by
   intro i hi
   have h2:=hel i hi
   have hi':i<elems.length:=by omega
   rw[List.getElem?_eq_getElem hi',Option.bind_eq_some_iff]at h2
   obtain⟨ys,h3,h4⟩:=h2
   obtain⟨b,h5,h6⟩:=ho n ys _ h4 (hwall elems hwe _ (List.getElem_mem hi')) (fun p hp=>hpl p (List.mem_append_right _ (List.mem_flatMap.2 ⟨_,List.mem_append_left _ (List.getElem_mem hi'),hp⟩)))
   exact⟨ys,b,h3,h5,h6⟩
  have all_: ∀k,k≤len→∃(xs:List Value) (l:List α),l.length=k∧L2 (Rep w fun _=>True) xs (l.map enc).flatten∧(∀b∈l,good b)∧∀j v,xs[j]? =some v→w.cell? (a.add j)=some v:=by
   intro k
   induction k with
   |zero=>intro _;exact⟨[],[],rfl,.nil,by simp,by simp⟩
   |succ k ih=>
    intro hk
    obtain⟨xs,l,h2,h3,h4,h5⟩:=ih (by omega)
    obtain⟨ys,b,h6,h7,h8⟩:=each k (by omega)
    obtain⟨_,h9,h10⟩:=World.cells?_some h6
    have hxl:xs.length=k*P.cellsOf e:=by
     rw[h3.length,←h2]
     clear h2 h3 h4
     induction l with
     |nil=>simp
     |cons c l ih=>simp[ih,hl,Nat.add_mul,Nat.add_comm]
    refine⟨xs++ys,l++[b],by simp[h2],?_,fun c hc=> ?_,fun j v hj=> ?_⟩
    ·rw[List.map_append,List.flatten_append]
     exact h3.append (by simpa using h7)
    ·rcases List.mem_append.1 hc with hc|hc
     ·exact h4 c hc
     ·simp at hc;subst hc;exact h8
    ·by_cases hlt:j<xs.length
     ·rw[List.getElem?_append_left hlt]at hj
      exact h5 j v hj
     ·rw[List.getElem?_append_right (by omega)]at hj
      have hjl:=(List.getElem?_eq_some_iff.1 hj).1
      have:=h10 (j-xs.length) (by omega)
      rw[hj]at this
      rw[←this,Addr.add_add]
      congr 2
      omega
  obtain⟨xs,l,h2,h3,h4,h5⟩:=all_ len (Nat.le_refl _)
  refine⟨l,.cons ?_ .nil,?_,h4⟩
  ·cases hln:l with
   |nil=>
    have e0:len=0:=by rw[←h2,hln];rfl
    rw[e0]
    exact .slE a cap hcm
   |cons b l'=>
    have hfl:((l.map enc).flatten).length=l.length*P.cellsOf e:=by
     have: ∀l:List α,((l.map enc).flatten).length=l.length*P.cellsOf e:=by
      intro l
      induction l with
      |nil=>simp
      |cons c l ih=>simp[ih,hl,Nat.add_mul,Nat.add_comm]
     exact this l
    ·have hx0:0<xs.length:=by
      rw[h3.length,hfl,hln]
      simp only[List.length_cons,Nat.add_mul]
      omega
     have hcell:=h5 0 xs[0] (List.getElem?_eq_getElem hx0)
     have ha:(a.add 0)=a:=by unfold Addr.add;rw[if_pos rfl]
     rw[ha]at hcell
     have hspot:a.spot=none∧a.block<w.heap.size:=by
      unfold World.cell? at hcell
      split at hcell
      ·rename_i c et m hheap
       refine⟨?_,(Array.getElem?_eq_some_iff.1 hheap).1⟩
       split at hcell
       ·cases hcell
       ·rename_i hs
        cases hsp:a.spot with
        |none=>rfl
        |some k=>rw[hsp]at hs;simp at hs
      ·cases hcell
     obtain⟨blk,off,spot⟩:=a
     simp only at hspot
     obtain⟨rfl,hlt⟩:=hspot
     rw[←hln]
     have:=Rep.sl (w:=w) (Z:=fun _=>True) blk off cap (P.cellsOf e) (l.map enc) xs trivial hlt (fun r hr=>by obtain⟨c,_,rfl⟩:=List.mem_map.1 hr;exact hl c) (fun r hr=>by obtain⟨c,_,rfl⟩:=List.mem_map.1 hr;exact h1 c)
      (fun j v hj=>by
       have hfz:=hpl (.cell blk (off+j)) (List.mem_append_left _ (List.mem_map.2 ⟨j,List.mem_range.2 (by
        have:=(List.getElem?_eq_some_iff.1 hj).1
        rw[h3.length,hfl,h2]at this
        have e3:elems.length*P.cellsOf e≤(elems.length+rest.length)*P.cellsOf e:=Nat.mul_le_mul_right _ (by omega)
        rw[←hlen]at this
        omega),rfl⟩))
       have:=h5 j v hj
       have e:(⟨blk,off,none⟩:Addr).add j=⟨blk,off+j,none⟩:=by unfold Addr.add;split<;>simp_all
       rw[e]at this
       exact⟨this,hfz⟩) (by simp;omega) hcm h3
     rw[List.length_map,h2]at this
     exact this
  ·simp only[List.length_map]at hb
   rw[h2,←hlen]
   exact Nat.le_trans (Nat.mul_le_mul_right _ (by omega)) hb
def OpensL {H:Type}(henc:TypeId×Value→H)(P:Program)(w:World)(off:Nat)(fs:List Field){α:Type}(enc:α→List PV)(good:α→Prop):Prop:=
 ∀(fuel:Nat) (cs:List Value) (xs:List (DataW H×List MemPlace)),(∀(i:Nat) (f:Field),fs[i]? =some f→DataW.trod henc P w 0 (fun _=>true) true fuel f.type ((cs.drop f.offset).take (P.cellsOf f.type))=xs[i]?)→xs.length=fs.length→
  (DataW.weightsEach P (fs.map (·.type)) (xs.map (·.1))).all (· ≤reachBytes)=true→cs.length=off+(fs.map fun f=>P.cellsOf f.type).sum→(∀p∈xs.flatMap (·.2),MemPlace.frozenIn w p=false)→∃a,L2 (Rep w fun _=>True) (cs.drop off) (enc a)∧good a
theorem opensL_nil (off:Nat):OpensL henc P w off [] (fun _:Unit=>[]) (fun _=>True):=by
 intro fuel cs xs _ _ _ hl _
 refine⟨(),?_,trivial⟩
 rw[List.drop_of_length_le (by simp at hl;omega)]
 exact .nil
theorem opensL_cons {off:Nat}{f:Field}{fs:List Field}{α β:Type}{enc:α→List PV}{good:α→Prop}{enc2:β→List PV}{good2:β→Prop}(ho:Opens henc P w f.type enc good)(hf:f.offset=off)(hr:OpensL henc P w (off+P.cellsOf f.type) fs enc2 good2):
  OpensL henc P w off (f::fs) (fun x:α×β=>enc x.1++enc2 x.2) (fun x=>good x.1∧good2 x.2):=by
 intro fuel cs xs hx hlen hw hl hpl
 cases xs with
 |nil=>simp at hlen
 |cons x xs=>
  simp only[List.map_cons,DataW.weightsEach,List.all_append,Bool.and_eq_true]at hw
  have h0:=hx 0 f rfl
  simp only[List.getElem?_cons_zero,hf]at h0
  simp only[List.flatMap_cons,List.mem_append]at hpl
  obtain⟨a,h1,h2⟩:=ho fuel _ x h0 hw.1 (fun p hp=>hpl p (.inl hp))
  simp only[List.map_cons,List.sum_cons]at hl
  obtain⟨b,h3,h4⟩:=hr fuel cs xs (fun i g hg=>by simpa using hx (i+1) g (by simpa using hg)) (by simpa using hlen) hw.2 (by omega) (fun p hp=>hpl p (.inr hp))
  refine⟨(a,b),?_,h2,h4⟩
  have e:cs.drop off=(cs.drop off).take (P.cellsOf f.type)++cs.drop (off+P.cellsOf f.type):=by
   rw[←List.drop_drop,List.take_append_drop]
  rw[e]
  exact h1.append h3
theorem opens_struct {t:TypeId}{fs:Array Field}{α:Type}{enc:α→List PV}{good:α→Prop}(hu:P.underlying t=some (.struct fs))(ho:OpensL henc P w 0 fs.toList enc good)(hs:P.cellsOf t=(fs.toList.map fun f=>P.cellsOf f.type).sum):Opens henc P w t enc good:=by
 intro fuel cs x h hw hpl
 obtain⟨xs,n,rfl,rfl,hl,hxl,hx⟩:=DataW.trod_struct hu h
 simp only[DataW.weights,hu]at hw
 obtain⟨a,h1,h2⟩:=ho n cs xs (fun i f hf=>hx i f (by simpa using hf)) (by simpa using hxl) hw (by omega) hpl
 exact⟨a,by simpa using h1,h2⟩
theorem Opens.map {t:TypeId}{α β:Type}{enc:α→List PV}{good:α→Prop}{enc2:β→List PV}{good2:β→Prop}(h:Opens henc P w t enc good)(f:α→β)(he: ∀a,enc2 (f a)=enc a)(hg: ∀a,good a→good2 (f a)):Opens henc P w t enc2 good2:=by
 intro fuel cs x h1 h2 h2'
 obtain⟨a,h3,h4⟩:=h fuel cs x h1 h2 h2'
 exact⟨f a,by rw[he];exact h3,hg a h4⟩
end
end Go.Proofs.YtlcobmehnaeebaaGreat
