/- The texts ShS, FuC, FuD, FnO, PuA, PuB, PuC, LiA, FnR, FnS, FuE, FuF, FuG, FuH, FuI, PuM, PuR, FnP, FnQ, FgH, FgK, FnT of the workplace, joined. -/
import Derived.Test.YtlcobmehnaeebaaGreatB5
import Derived.Shelf.Sort.Plain
import Derived.Shelf.Slices.In.SortNone
import Derived.Test.YtlcobmehnaeebaaGreatProg
import Derived.Lib.Mul64
import Derived.Sort.OwnSortedInts
namespace Go.Proofs.YtlcobmehnaeebaaGreat
open Go Go.Shelf Go.RowKit
def sortLays_ren:Go.Shelf.Ren:=⟨fun|189=>137|125=>149|257=>153|128=>162|129=>163|294=>167|295=>168|296=>169|297=>170|298=>171|299=>172|216=>173|300=>174|301=>175|328=>181|329=>177|330=>178|331=>182|332=>183|215=>184|343=>186|n=>n,fun|28=>24|3=>3|46=>151|0=>0|51=>163|53=>165|4=>4|183=>157|182=>156|131=>64|5=>5|9=>9|218=>175|222=>179|228=>183|229=>184|n=>n,fun|n=>n⟩
theorem sortLays:Go.Proofs.Lays.n189 Tryz.prog sortLays_ren:= {
 mixed:=by kernel_rfl
 f125:=Tryz.func149.trans (congrArg some (by kernel_rfl))
 f128:=Tryz.func162.trans (congrArg some (by kernel_rfl))
 f129:=Tryz.func163.trans (congrArg some (by kernel_rfl))
 f189:=Tryz.func137.trans (congrArg some (by kernel_rfl))
 f215:=Tryz.func184.trans (congrArg some (by kernel_rfl))
 f216:=Tryz.func173.trans (congrArg some (by kernel_rfl))
 f257:=Tryz.func153.trans (congrArg some (by kernel_rfl))
 f294:=Tryz.func167.trans (congrArg some (by kernel_rfl))
 f295:=Tryz.func168.trans (congrArg some (by kernel_rfl))
 f296:=Tryz.func169.trans (congrArg some (by kernel_rfl))
 f297:=Tryz.func170.trans (congrArg some (by kernel_rfl))
 f298:=Tryz.func171.trans (congrArg some (by kernel_rfl))
 f299:=Tryz.func172.trans (congrArg some (by kernel_rfl))
 f300:=Tryz.func174.trans (congrArg some (by kernel_rfl))
 f301:=Tryz.func175.trans (congrArg some (by kernel_rfl))
 f328:=Tryz.func181.trans (congrArg some (by kernel_rfl))
 f329:=Tryz.func177.trans (congrArg some (by kernel_rfl))
 f330:=Tryz.func178.trans (congrArg some (by kernel_rfl))
 f331:=Tryz.func182.trans (congrArg some (by kernel_rfl))
 f332:=Tryz.func183.trans (congrArg some (by kernel_rfl))
 f343:=Tryz.func186.trans (congrArg some (by kernel_rfl))
 t0:=Tryz.underlying0
 a0:=Tryz.isAgg0
 z0:=Tryz.sizeOf0
 v0:=Tryz.zeroValue0
 t3:=Tryz.underlying3
 a3:=Tryz.isAgg3
 z3:=Tryz.sizeOf3
 v3:=Tryz.zeroValue3
 t4:=Tryz.underlying4
 a4:=Tryz.isAgg4
 z4:=Tryz.sizeOf4
 v4:=Tryz.zeroValue4
 t5:=Tryz.underlying5
 a5:=Tryz.isAgg5
 z5:=Tryz.sizeOf5
 v5:=Tryz.zeroValue5
 t9:=Tryz.underlying9
 a9:=Tryz.isAgg9
 z9:=Tryz.sizeOf9
 v9:=Tryz.zeroValue9
 t28:=Tryz.underlying24
 a28:=Tryz.isAgg24
 z28:=Tryz.sizeOf24
 v28:=Tryz.zeroValue24
 t46:=Tryz.underlying151
 a46:=Tryz.isAgg151
 z46:=Tryz.sizeOf151
 v46:=Tryz.zeroValue151
 t51:=Tryz.underlying163
 a51:=Tryz.isAgg163
 z51:=Tryz.sizeOf163
 v51:=Tryz.zeroValue163
 t53:=Tryz.underlying165
 a53:=Tryz.isAgg165
 z53:=Tryz.sizeOf165
 v53:=Tryz.zeroValue165
 t131:=Tryz.underlying64
 a131:=Tryz.isAgg64
 z131:=Tryz.sizeOf64
 v131:=Tryz.zeroValue64
 t182:=Tryz.underlying156
 a182:=Tryz.isAgg156
 z182:=Tryz.sizeOf156
 v182:=Tryz.zeroValue156
 t183:=Tryz.underlying157
 a183:=Tryz.isAgg157
 z183:=Tryz.sizeOf157
 v183:=Tryz.zeroValue157
 t218:=Tryz.underlying175
 a218:=Tryz.isAgg175
 z218:=Tryz.sizeOf175
 v218:=Tryz.zeroValue175
 t222:=Tryz.underlying179
 a222:=Tryz.isAgg179
 z222:=Tryz.sizeOf179
 v222:=Tryz.zeroValue179
 t228:=Tryz.underlying183
 a228:=Tryz.isAgg183
 z228:=Tryz.sizeOf183
 v228:=Tryz.zeroValue183
 t229:=Tryz.underlying184
 a229:=Tryz.isAgg184
 z229:=Tryz.sizeOf184
 v229:=Tryz.zeroValue184 }
open Go.Sort Go.RowKit in
theorem sort_calls (blk off cap:Nat)(zs:List Int)(w:World)(hH:Holds (Value.int .i64) w blk off zs.toArray)(hblk:blk<w.heap.size)(hsz:zs.length<4611686018427387904):
  Calls Tryz.prog 137 #[.slice (some ⟨blk,off,none⟩) zs.length cap] w fun e w'=>
   e= .returned (.tuple #[])∧∃n os,w'=grow (putRow (Value.int .i64) (Sort.ahead w n) blk off (zs.mergeSort fun x y=>decide (x≤y)).toArray) os:=Any.slices_Sort_int sortLays blk off cap zs w hH hblk hsz
open Go.RowKit Go.Sort in
theorem sort_calls_none (p:Option Addr)(cap:Nat)(w:World):
  Calls Tryz.prog 137 #[.slice p 0 cap] w fun e w'=>e= .returned (.tuple #[])∧w'=w:=Any.slices_Sort_int_none sortLays p cap w
end Go.Proofs.YtlcobmehnaeebaaGreat
namespace Go.Proofs.YtlcobmehnaeebaaGreat
open Go Go.RowKit
set_option linter.unusedVariables false
set_option linter.unusedSimpArgs false
set_option maxRecDepth 8000
def valsT (x:List (Int×Int)):List Int:=(vals x).take 4097
theorem valsT_len (x:List (Int×Int)):(valsT x).length≤4097:=by unfold valsT;rw[List.length_take];omega
def listsP (d:Doms)(vs:List Int):List (List Int):=vs.map fun v=>valsT (d.getD v.toNat [])
theorem ulists_spec (d:Doms)(vs:List Int)(hd:SmallD d)(hb: ∀x∈d,InB x)(hx: ∀x∈d,x.length*16≤140737488351232)(hv: ∀v∈vs,0≤v∧v.toNat<d.length)(hl:vs.length*24≤140737488355328):
  Spec Tryz.prog 62 false [doms d,ints vs] [.own 24 1 ((listsP d vs).map cL)]:=by
 refine Spec.body Tryz.func62 rfl rfl rfl fun w0 Z0=> ?_
 repeat(refine .A ?_;conv=>whnf)
 refine T.sub (Rel.own0 (s:=5) 24 1 rfl) ?_
 refine T.K (T.list vs (fun n pre post=>⟨[(0,.val false (doms d)),(5,.ref 0),(8,.val false (ints vs)),(9,.val true (.int .i64 (vs.map cI).length)),(10,.val true (.int .i64 n))],[(0,some (.sl 24 1 true ((listsP d pre).map cL)))],1⟩) (fun _ _ h=>h) ?_ ?_)
 ·rintro n pre v post h hn ih
  have hlt:=at_lt h hn
  have hvv:=hv v (by rw[h];simp)
  have hrow:(d.map cD)[v.toNat]? =some (cD (d.getD v.toNat [])):=by simp[hvv.2]
  have hm:d.getD v.toNat []∈d:=by rw[List.getD_eq_getElem?_getD,List.getElem?_eq_getElem hvv.2];exact List.getElem_mem hvv.2
  have hsp:=(dvalues_spec (d.getD v.toNat []) (hb _ hm) (hx _ hm)).frz
  have hpl:(listsP d pre).length=pre.length:=List.length_map ..
  repeat(refine .A ?_;conv=>whnf)
  refine T.ct2 rfl (lt_at h hn) ?_
  repeat(refine .A ?_;conv=>whnf)
  refine .I (r:=cI v) (row_at h hn) ?_
  repeat(refine .A ?_;conv=>whnf)
  refine J.i rfl rfl rfl rfl rfl rfl rfl rfl rfl (r:=cD (d.getD v.toNat [])) hvv.1 hrow rfl ?_
  repeat(refine .A ?_;conv=>whnf)
  refine .C hsp ?_
  repeat(refine .A ?_;conv=>whnf)
  refine .V ?_
  repeat(refine .A ?_;conv=>whnf)
  refine J.a1 (enc:=cL) (x:=valsT (d.getD v.toNat [])) (B:=24) rfl rfl rfl rfl rfl rfl rfl rfl rfl rfl rfl rfl rfl rfl rfl rfl rfl rfl rfl rfl (by omega) ?_
  rw[show listsP d pre++[valsT (d.getD v.toNat [])]=listsP d (pre++[v])by simp[listsP]]
  repeat(refine .A ?_;conv=>whnf)
  rw[wrap1 hlt (by omega)]
  exact T.K ih
 ·repeat(refine .A ?_;conv=>whnf)
  refine T.cf2 rfl lt_end ?_
  repeat(refine .A ?_;conv=>whnf)
  exact⟨_,.o rfl rfl rfl (fun _=> .inl rfl) (by simp) .nil⟩
theorem len_L {l:List (List Int)}: ∀r∈l.map cL,r.length=1:=fun r hr=>by obtain⟨x,_,rfl⟩:=List.mem_map.1 hr;rfl
theorem cloneL_spec (l:List (List Int))(hl:l.length*24≤140737488355328):Spec Tryz.prog 64 true [lists l] [.own 24 1 (l.map cL)]:=by
 refine Spec.body Tryz.func64 rfl rfl rfl fun w0 Z0=> ?_
 repeat(refine .A ?_;conv=>whnf)
 refine J.nc rfl rfl rfl rfl rfl rfl rfl fun b hb=> ?_
 repeat(refine .A ?_;conv=>whnf)
 cases b
 ·refine T.cf rfl ?_
  repeat(refine .A ?_;conv=>whnf)
  refine .O ?_
  repeat(refine .A ?_;conv=>whnf)
  refine J.a rfl rfl rfl rfl rfl rfl rfl rfl rfl rfl rfl rfl rfl rfl rfl rfl rfl len_L (by show(0+List.length _)*24≤_;simp;omega) ?_
  repeat(refine .A ?_;conv=>whnf)
  exact⟨_,.o rfl rfl rfl (fun h=>by cases h) (by simp) .nil⟩
 ·have:l=[]:=by simpa using hb rfl
  subst this
  refine T.ct rfl ?_
  repeat(refine .A ?_;conv=>whnf)
  exact⟨_,.ownN rfl .nil⟩
theorem dvalue_spec (v:Int):Spec Tryz.prog 114 false [.int .i64 v] [.val (.bool (valueB v))]:=by
 refine Spec.body Tryz.func114 rfl rfl rfl fun w0 Z0=> ?_
 repeat(refine .A ?_;conv=>whnf)
 refine J.g rfl rfl rfl (fun h=> ?_) (fun h=> ?_)
 ·repeat(refine .A ?_;conv=>whnf)
  exact⟨_,.v rfl rfl (by simp[valueB,show -1048576≤v from h]) (fun _=>rfl) .nil⟩
 ·repeat(refine .A ?_;conv=>whnf)
  exact⟨_,.v rfl rfl (by simp[valueB,show¬-1048576≤v from h]) (fun _=>rfl) .nil⟩
theorem of1_spec (v:Int):Spec Tryz.prog 113 false [.int .i64 v] [.val (.bool (!valueB v))]:=by
 refine Spec.body Tryz.func113 rfl rfl rfl fun w0 Z0=> ?_
 repeat(refine .A ?_;conv=>whnf)
 refine .C (dvalue_spec v) ?_
 repeat(refine .A ?_;conv=>whnf)
 exact⟨_,.v rfl rfl rfl (fun _=>rfl) .nil⟩
def indexP (p:Int→Bool)(l:List Int):Int:=match l.findIdx? p with|some i=>(i:Int)|none=> -1
theorem indexF_spec {p:Int→Bool}{f:FuncId}(l:List Int)(hp: ∀v∈l,Spec Tryz.prog f false [.int .i64 v] [.val (.bool (p v))])(hl:l.length*8≤140737488355328):Spec Tryz.prog 119 false [ints l,.fn (.func f) [] []] [.val (.int .i64 (indexP p l))]:=by
 refine Spec.body Tryz.func119 rfl rfl rfl fun w0 Z0=> ?_
 repeat(refine .A ?_;conv=>whnf)
 refine T.K (T.listI l (fun pre=> ∀v∈pre,p v=false) (fun n pre post=>⟨[(0,.val false (ints l)),(1,.val false (.fn (.func f) [] [])),(7,.val true (.int .i64 (l.map cI).length)),(8,.val true (.int .i64 n))],[],0⟩) (fun _ _ h=>h) (fun v hv=>by cases hv) ?_ ?_)
 ·rintro n pre v post h hn hi ih
  have hlt:=at_lt h hn
  have hsp:=hp v (by rw[h];simp)
  repeat(refine .A ?_;conv=>whnf)
  refine T.ct2 rfl (lt_at h hn) ?_
  repeat(refine .A ?_;conv=>whnf)
  refine .I (r:=cI v) (row_at h hn) ?_
  repeat(refine .A ?_;conv=>whnf)
  refine .C hsp ?_
  repeat(refine .A ?_;conv=>whnf)
  refine T.cond rfl (fun h2=> ?_) (fun h2=> ?_)
  ·have h2:p v=true:=h2
   repeat(refine .A ?_;conv=>whnf)
   have e:indexP p l=(n:Int):=by
    unfold indexP
    rw[h,List.findIdx?_append,List.findIdx?_eq_none_iff.2 (by simpa using hi),List.findIdx?_cons,if_pos h2]
    simp[hn]
   rw[e]
   exact⟨_,.v rfl rfl rfl (fun _=>rfl) .nil⟩
  ·have h2:p v=false:=h2
   repeat(refine .A ?_;conv=>whnf)
   rw[wrap1 hlt (by omega)]
   exact T.K (ih (by
    intro x hx
    rcases List.mem_append.1 hx with hx|hx
    ·exact hi x hx
    ·rw[List.mem_singleton.1 hx];exact h2))
 ·intro hi
  have e:indexP p l= -1:=by
   unfold indexP
   rw[List.findIdx?_eq_none_iff.2 (by simpa using hi)]
  rw[e]
  repeat(refine .A ?_;conv=>whnf)
  refine T.cf2 rfl lt_end ?_
  repeat(refine .A ?_;conv=>whnf)
  exact⟨_,.v rfl rfl rfl (fun _=>rfl) .nil⟩
theorem containsF_spec {p:Int→Bool}{f:FuncId}(l:List Int)(hp: ∀v∈l,Spec Tryz.prog f false [.int .i64 v] [.val (.bool (p v))])(hl:l.length*8≤140737488355328):Spec Tryz.prog 112 false [ints l,.fn (.func f) [] []] [.val (.bool (l.any p))]:=by
 refine Spec.body Tryz.func112 rfl rfl rfl fun w0 Z0=> ?_
 repeat(refine .A ?_;conv=>whnf)
 refine .C (indexF_spec l hp hl) ?_
 repeat(refine .A ?_;conv=>whnf)
 refine⟨_,.v rfl rfl ?_ (fun _=>rfl) .nil⟩
 simp only[PV.bool.injEq]
 unfold indexP
 cases h:l.findIdx? p with
 |none=>
  have:l.any p=false:=by
   rw[List.any_eq_false]
   exact fun x hx=>by simpa using List.findIdx?_eq_none_iff.1 h x hx
  rw[this];rfl
 |some i=>
  have:l.any p=true:=by
   rw[List.any_eq_true]
   obtain⟨h1,h2,_⟩:=List.findIdx?_eq_some_iff_getElem.1 h
   exact⟨_,List.getElem_mem h1,h2⟩
  rw[this]
  simp
def packS (out:List (Int×Int))(v:Int):List (Int×Int):=match out.getLast? with
 |none=>out++[(v,v)]
 |some (a,b)=>if b≥v then out else if b=v-1 then out.dropLast++[(a,v)]else out++[(v,v)]
def packG (l:List Int):List (Int×Int):=l.foldl packS []
theorem packS_nil (v:Int):packS [] v=[(v,v)]:=rfl
theorem packS_snoc (o:List (Int×Int))(a b v:Int):packS (o++[(a,b)]) v=if b≥v then o++[(a,b)]else if b=v-1 then o++[(a,v)]else o++[(a,b)]++[(v,v)]:=by
 unfold packS
 rw[List.getLast?_append]
 simp
theorem packS_len (o:List (Int×Int))(v:Int):(packS o v).length≤o.length+1:=by
 rcases List.eq_nil_or_concat o with rfl|⟨o,⟨a,b⟩,rfl⟩
 ·exact Nat.le_refl _
 ·rw[List.concat_eq_append,packS_snoc]
  split
  ·simp
  ·split<;>simp
theorem packG_len (l:List Int):(packG l).length≤l.length:=by
 have: ∀(l:List Int) (o:List (Int×Int)),(l.foldl packS o).length≤o.length+l.length:=by
  intro l
  induction l with
  |nil=>intro o;exact Nat.le_refl _
  |cons v l ih=>intro o;have h1:=ih (packS o v);have h2:=packS_len o v;rw[List.foldl_cons,List.length_cons];omega
 have h:=this l []
 simp only[List.length_nil,Nat.zero_add]at h
 exact h
theorem packG_snoc (l:List Int)(v:Int):packG (l++[v])=packS (packG l) v:=by simp[packG]
theorem put_last {e:TypeId}{fr:Bool}(o:List (Int×Int))(a b v:Int):Own.put (.sl e 2 fr ((o++[(a,b)]).map cR)) o.length 1 2 true [.int .i64 v]=some (.sl e 2 fr ((o++[(a,v)]).map cR)):=by
 have h:((o++[(a,b)]).map cR)[o.length]? =some (cR (a,b)):=by simp
 show(match Nat.beq 2 2,((o++[(a,b)]).map cR)[o.length]? with|true,some r=>(match Nat.ble (1+1) r.length with|true=>some (Own.sl e 2 (fr&&true) (((o++[(a,b)]).map cR).set o.length (putCells r 1 [.int .i64 v])))|false=>none)|_,_=>none)=_
 rw[h]
 show some (Own.sl e 2 (fr&&true) _)=_
 rw[Bool.and_true]
 congr 2
 rw[List.map_append,List.map_append,show o.length=(o.map cR).length+0 by simp,List.set_append_right _ _ (by simp)]
 simp[cR,putCells]
theorem packed_spec (l:List Int)(hv: ∀v∈l,valueB v=true)(hl:l.length*16≤140737488355328):Spec Tryz.prog 115 false [ints l] [.own 47 2 ((packG l).map cR)]:=by
 refine Spec.body Tryz.func115 rfl rfl rfl fun w0 Z0=> ?_
 repeat(refine .A ?_;conv=>whnf)
 refine T.sub (Rel.own0 (s:=3) 47 2 rfl) ?_
 refine T.K (T.list l (fun n pre post=>⟨[(3,.ref 0),(7,.val false (ints l)),(8,.val true (.int .i64 (l.map cI).length)),(9,.val true (.int .i64 n))],[(0,some (.sl 47 2 true ((packG pre).map cR)))],1⟩) (fun _ _ h=>h) ?_ ?_)
 ·rintro n pre v post h hn ih
  have hlt:=at_lt h hn
  have hpl:=packG_len pre
  have hvv: -1048576≤v∧v≤1048576:=by simpa[valueB]using hv v (by rw[h];simp)
  rw[packG_snoc]at ih
  repeat(refine .A ?_;conv=>whnf)
  refine T.ct2 rfl (lt_at h hn) ?_
  repeat(refine .A ?_;conv=>whnf)
  refine .I (r:=cI v) (row_at h hn) ?_
  generalize packG pre=out at*
  repeat(refine .A ?_;conv=>whnf)
  rcases List.eq_nil_or_concat out with rfl|⟨o,⟨a,b⟩,rfl⟩
  ·refine J.g rfl rfl rfl (fun h2=> ?_) (fun h2=> ?_)
   ·simp at h2
   repeat(refine .A ?_;conv=>whnf)
   refine T.cf rfl ?_
   repeat(refine .A ?_;conv=>whnf)
   refine T.cf rfl ?_
   repeat(refine .A ?_;conv=>whnf)
   refine .V ?_
   repeat(refine .A ?_;conv=>whnf)
   refine J.aR rfl rfl rfl rfl rfl rfl rfl rfl rfl rfl rfl rfl rfl rfl rfl rfl rfl rfl rfl (by simp) ?_
   repeat(refine .A ?_;conv=>whnf)
   rw[wrap1 hlt (by omega)]
   exact T.K ih
  ·rw[List.concat_eq_append]at*
   rw[packS_snoc]at ih
   refine J.g rfl rfl rfl (fun h2=> ?_) (fun h2=> ?_)
   rotate_left
   ·simp at h2
   have hol:(o.map cR).length+1=(o++[(a,b)]).length:=by simp
   have hlw:IntKind.i64.wrap (((((o++[(a,b)]).map cR).length:Nat):Int)-1)=(o.length:Int):=by
    rw[List.length_map,List.length_append,wrap_id]<;>simp at* <;>omega
   have hro:((o++[(a,b)]).map cR)[((o.length:Nat):Int).toNat]? =some (cR (a,b)):=by simp
   repeat(refine .A ?_;conv=>whnf)
   rw[hlw]
   refine J.io rfl rfl rfl rfl rfl rfl rfl rfl rfl (by omega) (by simp) rfl ?_
   repeat(refine .A ?_;conv=>whnf)
   refine J.lo rfl rfl rfl rfl rfl rfl (r:=cR (a,b)) hro rfl ?_
   repeat(refine .A ?_;conv=>whnf)
   refine T.cd rfl (fun h3=> ?_) (fun h3=> ?_)
   ·rw[if_pos h3]at ih
    repeat(refine .A ?_;conv=>whnf)
    rw[wrap1 hlt (by omega)]
    exact T.K ih
   rw[if_neg h3]at ih
   repeat(refine .A ?_;conv=>whnf)
   refine J.g rfl rfl rfl (fun h4=> ?_) (fun h4=> ?_)
   rotate_left
   ·simp at h4
   repeat(refine .A ?_;conv=>whnf)
   rw[hlw]
   refine J.io rfl rfl rfl rfl rfl rfl rfl rfl rfl (by omega) (by simp) rfl ?_
   repeat(refine .A ?_;conv=>whnf)
   refine J.lo rfl rfl rfl rfl rfl rfl (r:=cR (a,b)) hro rfl ?_
   repeat(refine .A ?_;conv=>whnf)
   rw[wrap_id (n:=v-1) (by omega) (by omega)]
   refine T.cd rfl (fun h5=> ?_) (fun h5=> ?_)
   ·rw[if_pos h5]at ih
    repeat(refine .A ?_;conv=>whnf)
    rw[hlw]
    refine J.io rfl rfl rfl rfl rfl rfl rfl rfl rfl (by omega) (by simp) rfl ?_
    repeat(refine .A ?_;conv=>whnf)
    refine J.w rfl rfl rfl rfl rfl rfl rfl rfl rfl (put_last o a b v) ?_
    repeat(refine .A ?_;conv=>whnf)
    rw[wrap1 hlt (by omega)]
    exact T.K ih
   ·rw[if_neg h5]at ih
    repeat(refine .A ?_;conv=>whnf)
    refine .V ?_
    repeat(refine .A ?_;conv=>whnf)
    refine J.aR rfl rfl rfl rfl rfl rfl rfl rfl rfl rfl rfl rfl rfl rfl rfl rfl rfl rfl rfl (by omega) ?_
    repeat(refine .A ?_;conv=>whnf)
    rw[wrap1 hlt (by omega)]
    exact T.K ih
 ·repeat(refine .A ?_;conv=>whnf)
  refine T.cf2 rfl lt_end ?_
  repeat(refine .A ?_;conv=>whnf)
  exact⟨_,.o rfl rfl rfl (fun _=> .inl rfl) (by simp) .nil⟩
def DomOk (d:List (Int×Int)):Prop:=(∀r∈d,r.1≤r.2)∧d.Pairwise fun r s=>r.2+2≤s.1
def Up (l:List Int):Prop:=l.Pairwise (· < ·)
theorem mem_rng {lo hi v:Int}:v∈rng lo hi↔lo≤v∧v≤hi:=by
 simp only[rng,List.mem_map,List.mem_range]
 constructor
 ·rintro⟨k,hk,rfl⟩;omega
 ·intro h;exact⟨(v-lo).toNat,by omega,by omega⟩
theorem mem_vals {d:List (Int×Int)}{v:Int}:v∈vals d↔∃r∈d,r.1≤v∧v≤r.2:=by
 simp only[vals,List.mem_flatMap,mem_rng]
theorem rng_snoc {lo x:Int}(h:lo≤x+1):rng lo (x+1)=rng lo x++[x+1]:=by
 unfold rng
 rw[show(x+1+1-lo).toNat=(x+1-lo).toNat+1 by omega,List.range_succ,List.map_append]
 simp;omega
theorem rng_self (x:Int):rng x x=[x]:=by
 unfold rng
 rw[show(x+1-x).toNat=1 by omega]
 simp[List.range_succ]
theorem rng_cons {lo hi:Int}(h:lo≤hi):rng lo hi=lo::rng (lo+1) hi:=by
 unfold rng
 rw[show(hi+1-lo).toNat=(hi+1-(lo+1)).toNat+1 by omega,List.range_succ_eq_map,List.map_cons,List.map_map]
 simp only[Int.natCast_zero,Int.add_zero,List.cons.injEq,true_and]
 apply List.map_congr_left
 intro a _
 simp;omega
theorem rng_none {lo hi:Int}(h:hi<lo):rng lo hi=[]:=by
 unfold rng
 rw[show(hi+1-lo).toNat=0 by omega];rfl
theorem rng_up (lo hi:Int):Up (rng lo hi):=by
 unfold Up rng
 rw[List.pairwise_map]
 exact List.pairwise_lt_range.imp fun h=>by omega
theorem DomOk.tail {r:Int×Int}{d:List (Int×Int)}(h:DomOk (r::d)):DomOk d:=⟨fun s hs=>h.1 s (.tail _ hs),(List.pairwise_cons.1 h.2).2⟩
theorem vals_cons (r:Int×Int)(d:List (Int×Int)):vals (r::d)=rng r.1 r.2++vals d:=rfl
theorem vals_up: ∀{d:List (Int×Int)},DomOk d→Up (vals d)
 | [],_=> .nil
 |r::d,h=>by
  rw[vals_cons]
  refine List.pairwise_append.2 ⟨rng_up _ _,vals_up h.tail,fun a ha b hb=> ?_⟩
  obtain⟨s,hs,h1,h2⟩:=mem_vals.1 hb
  have:=(mem_rng.1 ha).2
  have:=(List.pairwise_cons.1 h.2).1 s hs
  omega
theorem vals_packF: ∀(l:List Int) (lo x:Int),lo≤x→Up (x::l)→vals (packF lo x l)=rng lo x++l
 | [],lo,x,_,_=>by simp[packF,vals]
 |y::l,lo,x,hlo,hu=>by
  have h1:=List.pairwise_cons.1 hu
  have hxy:=h1.1 y (.head _)
  simp only[packF]
  split
  ·rename_i e
   rw[vals_packF l lo y (by omega) h1.2,e,rng_snoc (by omega)]
   simp
  ·rw[vals_cons,vals_packF l y y (Int.le_refl _) h1.2,rng_self]
   simp
theorem vals_pack {l:List Int}(h:Up l):vals (pack l)=l:=by
 cases l with
 |nil=>rfl
 |cons x l=>rw[pack,vals_packF l x x (Int.le_refl _) h,rng_self];rfl
theorem packF_ok: ∀(l:List Int) (lo x:Int),lo≤x→Up (x::l)→DomOk (packF lo x l)∧∀r∈packF lo x l,lo≤r.1
 | [],lo,x,h,_=>by simp[packF,DomOk,h]
 |y::l,lo,x,hlo,hu=>by
  have h1:=List.pairwise_cons.1 hu
  have hxy:=h1.1 y (.head _)
  simp only[packF]
  split
  ·exact packF_ok l lo y (by omega) h1.2
  ·obtain⟨h2,h3⟩:=packF_ok l y y (Int.le_refl _) h1.2
   refine⟨⟨fun r hr=> ?_,List.pairwise_cons.2 ⟨fun r hr=> ?_,h2.2⟩⟩,fun r hr=> ?_⟩
   ·rcases List.mem_cons.1 hr with rfl|hr
    ·exact hlo
    ·exact h2.1 r hr
   ·have:=h3 r hr
    simp only;omega
   ·rcases List.mem_cons.1 hr with rfl|hr
    ·exact Int.le_refl _
    ·have:=h3 r hr;omega
theorem pack_ok {l:List Int}(h:Up l):DomOk (pack l):=by
 cases l with
 |nil=>exact⟨by simp[pack],.nil⟩
 |cons x l=>exact(packF_ok l x x (Int.le_refl _) h).1
theorem packF_run: ∀(n:Nat) (lo x hi:Int) (l:List Int),hi=x+n→(∀y∈l.head?,hi+2≤y)→packF lo x (rng (x+1) hi++l)=(lo,hi)::pack l
 |0,lo,x,hi,l,e,h=>by
  have:hi=x:=by omega
  subst this
  rw[rng_none (by omega),List.nil_append]
  cases l with
  |nil=>rfl
  |cons y l=>
   have:=h y rfl
   simp only[packF]
   rw[if_neg (by omega)]
   rfl
 |n+1,lo,x,hi,l,e,h=>by
  rw[rng_cons (by omega),List.cons_append,packF,if_pos rfl]
  exact packF_run n lo (x+1) hi l (by omega) h
theorem pack_vals: ∀{d:List (Int×Int)},DomOk d→pack (vals d)=d
 | [],_=>rfl
 |r::d,h=>by
  have hr:=h.1 r (.head _)
  rw[vals_cons,rng_cons hr,List.cons_append,pack,packF_run (r.2-r.1).toNat r.1 r.1 r.2 (vals d) (by omega) ?_,pack_vals h.tail]
  intro y hy
  have hm:y∈vals d:=List.mem_of_mem_head? hy
  obtain⟨s,hs,h1,h2⟩:=mem_vals.1 hm
  have:=(List.pairwise_cons.1 h.2).1 s hs
  omega
theorem dom_ext {d d':List (Int×Int)}(h:DomOk d)(h':DomOk d')(e:vals d=vals d'):d=d':=by
 rw[←pack_vals h,←pack_vals h',e]
theorem insS_up {v:Int}: ∀{l:List Int},Up l→v∉l→Up (insS v l)
 | [],_,_=>by simp[insS,Up]
 |x::l,h,hn=>by
  have h1:=List.pairwise_cons.1 h
  simp only[insS]
  split
  ·refine List.pairwise_cons.2 ⟨fun y hy=> ?_,h⟩
   rcases List.mem_cons.1 hy with rfl|hy
   ·assumption
   ·have:=h1.1 y hy;omega
  ·refine List.pairwise_cons.2 ⟨fun y hy=> ?_,insS_up h1.2 fun h=>hn (.tail _ h)⟩
   have hm:y∈insU v l:=by unfold insU;rw[if_neg (show¬v∈l from fun h=>hn (.tail _ h))];exact hy
   rcases (insU_mem v y l).1 hm with rfl|hy
   ·have:y≠x:=fun e=>hn (e▸.head _)
    omega
   ·exact h1.1 y hy
theorem insU_up {v:Int}{l:List Int}(h:Up l):Up (insU v l):=by
 unfold insU;split
 ·exact h
 ·rename_i hn;exact insS_up h hn
theorem sortU_up (l:List Int):Up (sortU l):=by
 have key: ∀(l out:List Int),Up out→Up (l.foldl (fun out v=>insU v out) out):=by
  intro l
  induction l with
  |nil=>intro out h;exact h
  |cons v l ih=>intro out h;exact ih _ (insU_up h)
 exact key l [] .nil
theorem filter_up {l:List Int}{p:Int→Bool}(h:Up l):Up (l.filter p):=List.Pairwise.sublist List.filter_sublist h
theorem up_nodup {l:List Int}(h:Up l):l.Nodup:=h.imp fun h=>Int.ne_of_lt h
theorem vals_ne {d:List (Int×Int)}(h:DomOk d):vals d=[]↔d=[]:=by
 cases d with
 |nil=>simp[vals]
 |cons r d=>
  rw[vals_cons,rng_cons (h.1 r (.head _))]
  simp
theorem vals_head {r:Int×Int}{d:List (Int×Int)}(h:DomOk (r::d)): ∃l,vals (r::d)=r.1::l:=by
 rw[vals_cons,rng_cons (h.1 r (.head _))]
 exact⟨_,rfl⟩
theorem vals_last {d:List (Int×Int)}(h:DomOk d)(hne:d≠[]):(vals d).getLast? =some (lastR d):=by
 obtain⟨d',r,rfl⟩: ∃d' r,d=d'++[r]:=⟨d.dropLast,d.getLast hne,(List.dropLast_concat_getLast hne).symm⟩
 have hr:=h.1 r (by simp)
 have e:vals (d'++[r])=vals d'++rng r.1 r.2:=by simp[vals]
 rw[e]
 have e2:rng r.1 r.2=rng r.1 (r.2-1)++[r.2]:=by
  have:=rng_snoc (lo:=r.1) (x:=r.2-1) (by omega)
  rwa[show r.2-1+1=r.2 by omega]at this
 rw[e2,←List.append_assoc]
 simp[lastR]
theorem endsR_eq {d:List (Int×Int)}(h:DomOk d)(hne:d≠[]):endsR d=(leastR d,lastR d,true):=by
 cases d with
 |nil=>exact absurd rfl hne
 |cons r d=>
  obtain⟨l,hl⟩:=vals_head h
  have hlast:=vals_last h hne
  unfold endsR
  split
  ·rename_i e;rw[hl]at e;cases e
  ·rename_i x l' e
   rw[hl]at e
   obtain⟨rfl,rfl⟩:=List.cons.inj e
   rw[hl,List.getLast?_eq_some_getLast (by simp)]at hlast
   simp only[Option.some.injEq]at hlast
   rw[hlast]
   rfl
theorem least_mem {d:List (Int×Int)}(h:DomOk d)(hne:d≠[]):leastR d∈vals d:=by
 cases d with
 |nil=>exact absurd rfl hne
 |cons r d=>obtain⟨l,hl⟩:=vals_head h;rw[hl];exact .head _
theorem last_mem {d:List (Int×Int)}(h:DomOk d)(hne:d≠[]):lastR d∈vals d:=List.mem_of_getLast? (vals_last h hne)
theorem least_le {d:List (Int×Int)}(h:DomOk d){v:Int}(hv:v∈vals d):leastR d≤v:=by
 cases d with
 |nil=>simp[vals]at hv
 |cons r d=>
  obtain⟨l,hl⟩:=vals_head h
  have hu:=vals_up h
  rw[hl]at hu hv
  rcases List.mem_cons.1 hv with rfl|hv
  ·exact Int.le_refl _
  ·exact Int.le_of_lt ((List.pairwise_cons.1 hu).1 v hv)
theorem le_last {d:List (Int×Int)}(h:DomOk d){v:Int}(hv:v∈vals d):v≤lastR d:=by
 have hne:d≠[]:=fun e=>by rw[e]at hv;simp[vals]at hv
 have hu:=vals_up h
 obtain⟨l,hl⟩: ∃l,vals d=l++[lastR d]:=by
  have:=vals_last h hne
  obtain⟨l,hl⟩:=List.getLast?_eq_some_iff.1 this
  exact⟨l,hl⟩
 rw[hl]at hu hv
 rcases List.mem_append.1 hv with hv|hv
 ·exact Int.le_of_lt ((List.pairwise_append.1 hu).2.2 v hv _ (by simp))
 ·simp at hv;omega
theorem up_ext: ∀{l l':List Int},Up l→Up l'→(∀v,v∈l↔v∈l')→l=l'
 | [],[],_,_,_=>rfl
 | [],y::l',_,_,h=>by have:=(h y).2 (.head _);cases this
 |x::l,[],_,_,h=>by have:=(h x).1 (.head _);cases this
 |x::l,y::l',h1,h2,h=>by
  have a1:=List.pairwise_cons.1 h1
  have a2:=List.pairwise_cons.1 h2
  have e:x=y:=by
   rcases List.mem_cons.1 ((h x).1 (.head _))with e|e
   ·exact e
   ·rcases List.mem_cons.1 ((h y).2 (.head _))with e2|e2
    ·exact e2.symm
    ·have:=a2.1 x e;have:=a1.1 y e2;omega
  subst e
  congr 1
  refine up_ext a1.2 a2.2 fun v=>⟨fun hv=> ?_,fun hv=> ?_⟩
  ·rcases List.mem_cons.1 ((h v).1 (.tail _ hv))with rfl|h3
   ·have:=a1.1 v hv;omega
   ·exact h3
  ·rcases List.mem_cons.1 ((h v).2 (.tail _ hv))with rfl|h3
   ·have:=a2.1 v hv;omega
   ·exact h3
theorem meet1_ok {lo hi:Int}: ∀{d:List (Int×Int)},DomOk d→DomOk (meetR d [(lo,hi)])∧(∀r∈meetR d [(lo,hi)],∃s∈d,s.1≤r.1∧r.2≤s.2)∧∀v,v∈vals (meetR d [(lo,hi)])↔v∈vals d∧lo≤v∧v≤hi
 | [],_=>by rw[meetR_l];exact⟨⟨by simp,.nil⟩,by simp,by simp[vals]⟩
 |x::d,h=>by
  obtain⟨h1,h2,h3⟩:=meet1_ok (lo:=lo) (hi:=hi) h.tail
  have hx:=h.1 x (.head _)
  have hp:=(List.pairwise_cons.1 h.2).1
  have hvd: ∀v∈vals d,x.2+2≤v:=fun v hv=>by
   obtain⟨s,hs,h4,h5⟩:=mem_vals.1 hv
   have:=hp s hs;omega
  rw[meetR_cons,meetR_r]
  have tailOk:DomOk (if x.2<hi then meetR d [(lo,hi)]else [])∧(∀r∈(if x.2<hi then meetR d [(lo,hi)]else []),∃s∈d,s.1≤r.1∧r.2≤s.2)∧∀v,v∈vals (if x.2<hi then meetR d [(lo,hi)]else [])↔v∈vals d∧lo≤v∧v≤hi:=by
   split
   ·exact⟨h1,h2,h3⟩
   ·refine⟨⟨by simp,.nil⟩,by simp,fun v=>⟨fun h=>by simp[vals]at h,fun h=> ?_⟩⟩
    have:=hvd v h.1;omega
  generalize (if x.2<hi then meetR d [(lo,hi)]else [])=t at*
  obtain⟨t1,t2,t3⟩:=tailOk
  split
  ·rename_i hc
   refine⟨⟨fun r hr=> ?_,?_⟩,fun r hr=> ?_,fun v=> ?_⟩
   ·rcases List.mem_cons.1 hr with rfl|hr
    ·exact hc
    ·exact t1.1 r hr
   ·refine List.pairwise_cons.2 ⟨fun r hr=> ?_,t1.2⟩
    obtain⟨s,hs,h5,h6⟩:=t2 r hr
    have:=hp s hs
    simp only;omega
   ·rcases List.mem_cons.1 hr with rfl|hr
    ·exact⟨x,.head _,by simp only;omega,by simp only;omega⟩
    ·obtain⟨s,hs,h5,h6⟩:=t2 r hr
     exact⟨s,.tail _ hs,h5,h6⟩
   ·rw[List.singleton_append,vals_cons,vals_cons,List.mem_append,List.mem_append,mem_rng,mem_rng,t3]
    constructor
    ·rintro(h7|h7)
     ·exact⟨.inl (by omega),by omega,by omega⟩
     ·exact⟨.inr h7.1,h7.2⟩
    ·rintro⟨h7|h7,h8⟩
     ·exact .inl (by simp only;omega)
     ·exact .inr ⟨h7,h8⟩
  ·rename_i hc
   rw[List.nil_append]
   refine⟨t1,fun r hr=> ?_,fun v=> ?_⟩
   ·obtain⟨s,hs,h5,h6⟩:=t2 r hr
    exact⟨s,.tail _ hs,h5,h6⟩
   ·rw[vals_cons,List.mem_append,mem_rng,t3]
    constructor
    ·exact fun h7=>⟨.inr h7.1,h7.2⟩
    ·rintro⟨h7|h7,h8⟩
     ·omega
     ·exact⟨h7,h8⟩
theorem domCut_ok {d:List (Int×Int)}(h:DomOk d)(lo hi:Int):DomOk (domCut d lo hi)∧∀v,v∈vals (domCut d lo hi)↔v∈vals d∧lo≤v∧v≤hi:=by
 unfold domCut
 split
 ·exact⟨⟨by simp,.nil⟩,fun v=>⟨fun h=>by simp[vals]at h,fun h=>by omega⟩⟩
 ·exact⟨(meet1_ok h).1,(meet1_ok h).2.2⟩
theorem cutR_ok {d:List (Int×Int)}(h:DomOk d)(lo hi:Int):DomOk (cutR d lo hi)∧∀v,v∈vals (cutR d lo hi)↔v∈vals d∧lo≤v∧v≤hi:=by
 have hu:=filter_up (p:=fun v=>decide (lo≤v)&&decide (v≤hi)) (vals_up h)
 exact⟨pack_ok hu,fun v=>by rw[cutR,vals_pack hu];simp⟩
theorem cut_eq {d:List (Int×Int)}(h:DomOk d){lo hi lo' hi':Int}(he: ∀v∈vals d,(lo≤v∧v≤hi↔lo'≤v∧v≤hi')):domCut d lo hi=cutR d lo' hi':=by
 obtain⟨h1,h2⟩:=domCut_ok h lo hi
 obtain⟨h3,h4⟩:=cutR_ok h lo' hi'
 refine dom_ext h1 h3 (up_ext (vals_up h1) (vals_up h3) fun v=> ?_)
 rw[h2,h4]
 exact⟨fun⟨a,b⟩=>⟨a,(he v a).1 b⟩,fun⟨a,b⟩=>⟨a,(he v a).2 b⟩⟩
theorem one_iff {d:List (Int×Int)}(h:DomOk d):(vals d).length=1↔∃x,d=[(x,x)]:=by
 constructor
 ·intro hl
  obtain⟨x,hx⟩:=List.length_eq_one_iff.1 hl
  exact⟨x,by rw[←pack_vals h,hx];rfl⟩
 ·rintro⟨x,rfl⟩
  rw[vals_cons,rng_self];rfl
theorem known_iff {d:List (Int×Int)}(h:DomOk d):(d≠[]∧leastR d=lastR d)↔∃x,d=[(x,x)]:=by
 constructor
 ·rintro⟨hne,he⟩
  refine(one_iff h).1 ?_
  have hu:=vals_up h
  have hm:=least_mem h hne
  cases hv:vals d with
  |nil=>rw[hv]at hm;cases hm
  |cons y l=>
   cases l with
   |nil=>rfl
   |cons z l=>
    have h1:=least_le h (v:=y) (by rw[hv];simp)
    have h2:=le_last h (v:=z) (by rw[hv];simp)
    rw[hv]at hu
    have:=(List.pairwise_cons.1 hu).1 z (by simp)
    omega
 ·rintro⟨x,rfl⟩
  exact⟨by simp,rfl⟩
theorem knownB_iff {a b:Int}{da db:List (Int×Int)}(ha:DomOk da)(hb:DomOk db):knownB a b da db=true↔a=b∨((vals da).length=1∧da=db):=by
 simp only[knownB,Bool.or_eq_true,Bool.and_eq_true,decide_eq_true_eq,ofD,Prod.mk.injEq]
 refine or_congr_right ⟨?_,?_⟩
 ·rintro⟨⟨⟨h1,h2⟩,h3⟩,h4,h5⟩
  obtain⟨x,rfl⟩:=(known_iff ha).1 ⟨List.ne_nil_of_length_pos h1,h3⟩
  obtain⟨y,rfl⟩:=(known_iff hb).1 ⟨List.ne_nil_of_length_pos h2,by omega⟩
  refine⟨(one_iff ha).2 ⟨x,rfl⟩,?_⟩
  have:x=y:=h4
  rw[this]
 ·rintro⟨h1,rfl⟩
  obtain⟨x,rfl⟩:=(one_iff ha).1 h1
  exact⟨⟨⟨by simp,by simp⟩,rfl⟩,rfl,rfl⟩
theorem known_eq {a b:Int}{da db:List (Int×Int)}(ha:DomOk da)(hb:DomOk db):knownB a b da db=knownR a b da db:=by
 rw[Bool.eq_iff_iff,knownB_iff ha hb]
 simp only[knownR,Bool.or_eq_true,Bool.and_eq_true,decide_eq_true_eq]
 refine or_congr_right (and_congr_right fun _=>⟨fun e=>by rw[e],fun e=>dom_ext ha hb e⟩)
theorem dom_inB {d:List (Int×Int)}(h:DomOk d)(hv: ∀v∈vals d,-1048576≤v∧v≤1048576):InB d:=by
 intro r hr
 have h1:=h.1 r hr
 have h2:=hv r.1 (mem_vals.2 ⟨r,hr,Int.le_refl _,h1⟩)
 have h3:=hv r.2 (mem_vals.2 ⟨r,hr,h1,Int.le_refl _⟩)
 omega
theorem dom_length_le: ∀{d:List (Int×Int)},DomOk d→d.length≤(vals d).length
 | [],_=>by simp
 |r::d,h=>by
  have:=dom_length_le h.tail
  have hr:=h.1 r (.head _)
  rw[vals_cons,rng_cons hr]
  simp only[List.length_cons,List.length_append];omega
structure Fine (d:List (Int×Int)):Prop where
 ok:DomOk d
 val: ∀v∈vals d,-1048576≤v∧v≤1048576
 few:(vals d).length*16+1048576≤140737488355328
theorem Fine.domB {d:List (Int×Int)}(h:Fine d):DomB d:=⟨dom_inB h.ok h.val,by have:=h.few;omega,by have:=h.few;have:=dom_length_le h.ok;omega⟩
theorem Fine.len {d:List (Int×Int)}(h:Fine d):d.length*16+1048576≤140737488355328:=by have:=h.few;have:=dom_length_le h.ok;omega
theorem up_length_le {l l':List Int}(h:Up l)(hs: ∀v∈l,v∈l'):l.length≤l'.length:=(up_nodup h).length_le_of_subset hs
theorem Fine.cut {d d':List (Int×Int)}(h:Fine d)(h':DomOk d')(hs: ∀v∈vals d',v∈vals d):Fine d':=
 ⟨h',fun v hv=>h.val v (hs v hv),by have:=h.few;have:=up_length_le (vals_up h') hs;omega⟩
theorem placeF_before {p:Nat→Bool}{h j:Nat}(hj:j<placeF p h):p j=true:=by
 unfold placeF at hj
 cases hf:(List.range h).find? (fun k=> !p k)with
 |none=>
  rw[hf]at hj
  have:=List.find?_eq_none.1 hf j (List.mem_range.2 (by simpa using hj))
  simpa using this
 |some k=>
  rw[hf]at hj
  have:=(List.find?_range_eq_some.1 hf).2.2 j (by simpa using hj)
  simpa using this
theorem placeF_here {p:Nat→Bool}{h:Nat}(hlt:placeF p h<h):p (placeF p h)=false:=by
 unfold placeF at hlt⊢
 cases hf:(List.range h).find? (fun k=> !p k)with
 |none=>rw[hf]at hlt;simp at hlt
 |some k=>
  have:=(List.find?_range_eq_some.1 hf).1
  simpa using this
theorem con_in {d:Doms}{c:Con}(hc:ConB c)(h:conR d c=0):VarsIn d c∧rightR d c=true:=by
 unfold conR at h
 split at h
 ·cases h
 ·split at h
  ·cases h
  ·rename_i hu
   split at h
   ·cases h
   ·rename_i hr
    exact⟨(uses_in hc (by simpa using hu)).1,by simpa using hr⟩
theorem iter_ex {α β:Type}{step:α→β ⊕ α}(Inv:α→Prop)(μ:α→Nat)(h: ∀x y,Inv x→step x= .inr y→Inv y∧μ y<μ x): ∀x,Inv x→∃N R,iter step N x=some R:=by
 have key: ∀n x,μ x=n→Inv x→∃N R,iter step N x=some R:=by
  intro n
  induction n using Nat.strongRecOn with
  |_ n ih=>
   intro x hx hi
   cases e:step x with
   |inl b=>exact⟨1,b,by simp[iter,e]⟩
   |inr y=>
    obtain⟨h1,h2⟩:=h x y hi e
    obtain⟨N,R,hR⟩:=ih (μ y) (hx▸h2) y rfl h1
    exact⟨N+1,R,by simp[iter,e,hR]⟩
 exact fun x hi=>key _ x rfl hi
theorem iter_end {α β:Type}{step:α→β ⊕ α}(Inv:α→Prop)(h: ∀x y,Inv x→step x= .inr y→Inv y): ∀(N:Nat) (x:α) (R:β),Inv x→iter step N x=some R→∃z,Inv z∧step z= .inl R
 |0,x,R,_,e=>by cases e
 |n+1,x,R,hi,e=>by
  cases hs:step x with
  |inl b=>simp only[iter,hs,Option.some.injEq]at e;exact⟨x,hi,by rw[hs,e]⟩
  |inr y=>simp only[iter,hs]at e;exact iter_end Inv h n y R (h x y hi hs) e
theorem iter_same {α β:Type}{s1 s2:α→β ⊕ α}(Inv:α→Prop)(h: ∀x y,Inv x→s1 x= .inr y→Inv y)(he: ∀x,Inv x→s1 x=s2 x): ∀(N:Nat) (x:α),Inv x→iter s1 N x=iter s2 N x
 |0,_,_=>rfl
 |n+1,x,hi=>by
  simp only[iter,←he x hi]
  cases hs:s1 x with
  |inl b=>rfl
  |inr y=>exact iter_same Inv h he n y (h x y hi hs)
def weight (d:Doms):Nat:=(d.map fun x=>(vals x).length).sum
theorem weight_set: ∀{d:Doms} {i:Nat} {y:List (Int×Int)} (x:List (Int×Int)),d[i]? =some y→weight (d.set i x)+(vals y).length=weight d+(vals x).length
 | [],i,y,x,h=>by simp at h
 |z::d,0,y,x,h=>by
  simp at h;subst h
  simp only[List.set_cons_zero,weight,List.map_cons,List.sum_cons];omega
 |z::d,i+1,y,x,h=>by
  have:=weight_set (d:=d) (i:=i) x (by simpa using h)
  simp only[List.set_cons_succ,weight,List.map_cons,List.sum_cons]at this⊢;omega
theorem sub_lt {d d':List (Int×Int)}(h:DomOk d)(h':DomOk d')(hs: ∀v∈vals d',v∈vals d):(vals d').length≤(vals d).length∧(d'≠d→(vals d').length<(vals d).length):=by
 have hle:=up_length_le (vals_up h') hs
 refine⟨hle,fun hne=>Nat.lt_of_le_of_ne hle fun e=>hne ?_⟩
 refine dom_ext h' h (up_ext (vals_up h') (vals_up h) fun v=>⟨hs v,fun hv=> ?_⟩)
 refine Classical.byContradiction fun hn=> ?_
 have h1:(v::vals d').Nodup:=List.nodup_cons.2 ⟨hn,up_nodup (vals_up h')⟩
 have h2:(v::vals d').length≤(vals d).length:=h1.length_le_of_subset fun w hw=>by
  rcases List.mem_cons.1 hw with rfl|hw
  ·exact hv
  ·exact hs w hw
 simp at h2;omega
structure Cutd (d out:Doms):Prop where
 len:out.length=d.length
 fine: ∀x∈out,Fine x
 ne: ∀x∈out,x≠[]
 sub: ∀(i:Nat) x y,out[i]? =some x→d[i]? =some y→∀v∈vals x,v∈vals y
theorem Cutd.set {d out:Doms}(h:Cutd d out){i:Nat}{x y:List (Int×Int)}(hy:out[i]? =some y)(hx:DomOk x)(hne:x≠[])(hs: ∀v∈vals x,v∈vals y):Cutd d (out.set i x):=by
 have hym:=List.mem_of_getElem? hy
 refine⟨by simp[h.len],fun z hz=> ?_,fun z hz=> ?_,fun j z w hz hw v hv=> ?_⟩
 ·rcases List.mem_or_eq_of_mem_set hz with hz|rfl
  ·exact h.fine z hz
  ·exact(h.fine y hym).cut hx hs
 ·rcases List.mem_or_eq_of_mem_set hz with hz|rfl
  ·exact h.ne z hz
  ·exact hne
 ·by_cases e:i=j
  ·subst e
   have hlt:=(List.getElem?_eq_some_iff.1 hy).1
   rw[List.getElem?_set_self hlt]at hz
   obtain rfl:=Option.some.inj hz
   exact h.sub i y w hy hw v (hs v hv)
  ·rw[List.getElem?_set_ne e]at hz
   exact h.sub j z w hz hw v hv
theorem stepO_inr {c:Con}{d out next:Doms}(hv:VarsIn out c)(h:Cutd d out)(hs:stepO c out= .inr next):Cutd d next∧VarsIn next c∧weight next<weight out:=by
 have hh:=half_le c
 unfold stepO at hs
 split at hs
 ·cases hs
 ·rename_i hk
  have hkl:placeO out c<halfOf c:=by have:=placeF_le (pairO out c) (halfOf c);unfold placeO at hk⊢;omega
  have hp:pairO out c (placeO out c)=false:=placeF_here hkl
  have hv1:=hv.2 _ (varAt_mem (c:=c) (k:=placeO out c) (by omega))
  have hv2:=hv.2 _ (varAt_mem (c:=c) (k:=halfOf c+placeO out c) (by omega))
  have hab:varAt c (placeO out c)≠varAt c (halfOf c+placeO out c):=fun e=>by rw[pairO,e]at hp;simp[knownB]at hp
  simp only at hs
  generalize varAt c (placeO out c)=a at*
  generalize varAt c (halfOf c+placeO out c)=b at*
  have ha:=domAt_some hv1.2
  have hb:=domAt_some hv2.2
  have fa:=h.fine _ (domAt_mem hv1.2)
  have fb:=h.fine _ (domAt_mem hv2.2)
  generalize domAt out a=da at*
  generalize domAt out b=db at*
  obtain⟨x1,x2⟩:=domCut_ok fa.ok (-1048576) (lastR db)
  obtain⟨y1,y2⟩:=domCut_ok fb.ok (leastR da) 1048576
  generalize domCut da (-1048576) (lastR db)=x at*
  generalize domCut db (leastR da) 1048576=y at*
  split at hs
  ·cases hs
  ·rename_i hne
   split at hs
   ·cases hs
   ·rename_i hns
    obtain rfl:=Sum.inr.inj hs
    have hsx: ∀v∈vals x,v∈vals da:=fun v hv=>((x2 v).1 hv).1
    have hsy: ∀v∈vals y,v∈vals db:=fun v hv=>((y2 v).1 hv).1
    have hne':a.toNat≠b.toNat:=by omega
    have hb':(out.set a.toNat x)[b.toNat]? =some db:=by rw[List.getElem?_set_ne hne'];exact hb
    refine⟨(h.set ha x1 (fun e=>hne (.inl e)) hsx).set hb' y1 (fun e=>hne (.inr e)) hsy,(hv.set _ _).set _ _,?_⟩
    have w1:=weight_set x ha
    have w2:=weight_set y hb'
    have l1:=sub_lt fa.ok x1 hsx
    have l2:=sub_lt fb.ok y1 hsy
    by_cases e1:x=da
    ·have e2:y≠db:=fun e=>hns ⟨e1,e⟩
     have:=l2.2 e2
     subst e1;omega
    ·have:=l1.2 e1
     omega
theorem pruneO_ex {c:Con}{d:Doms}(hv:VarsIn d c)(hf: ∀x∈d,Fine x): ∃R N,(if []∈d then R=none else iter (stepO c) N d=some R)∧(∀out,R=some out→Cutd d out∧stepO c out= .inl (some out)):=by
 by_cases he: []∈d
 ·exact⟨none,0,by rw[if_pos he],fun out h=>by cases h⟩
 ·have h0:Cutd d d:=⟨rfl,hf,fun x hx e=>he (e▸hx),fun i x y hx hy v hv=>by rw[hx]at hy;exact Option.some.inj hy▸hv⟩
  have hst: ∀x y,(Cutd d x∧VarsIn x c)→stepO c x= .inr y→(Cutd d y∧VarsIn y c)∧weight y<weight x:=fun x y hi hs=>by
   have:=stepO_inr hi.2 hi.1 hs
   exact⟨⟨this.1,this.2.1⟩,this.2.2⟩
  obtain⟨N,R,hR⟩:=iter_ex (step:=stepO c) (fun x=>Cutd d x∧VarsIn x c) weight hst d ⟨h0,hv⟩
  refine⟨R,N,by rw[if_neg he];exact hR,fun out h=> ?_⟩
  obtain⟨z,hz,hs⟩:=iter_end (fun x=>Cutd d x∧VarsIn x c) (fun x y hi hs=>(hst x y hi hs).1) N d R ⟨h0,hv⟩ hR
  have:z=out:=by
   subst h
   unfold stepO at hs
   split at hs
   ·simpa using hs
   ·simp only at hs
    split at hs
    ·simp at hs
    ·split at hs
     ·simpa using hs
     ·cases hs
  subst this
  rw[h]at hs
  exact⟨hz.1,hs⟩
abbrev wr (n:Int):Int:=IntKind.i64.wrap n
def smallI (n:Int):Bool:=decide (-4611686018427387904≤n)&&decide (n≤4611686018427387904)
def mulI (a b:Int):Int×Bool:=if smallI a&&smallI b&&smallI (a*b)then(a*b,true)else(0,false)
def endW (d:List (Int×Int))(k:Int)(high:Bool):Int×Bool:=((mulI k (if decide (0<k)==high then lastR d else leastR d)).1,!d.isEmpty&&(mulI k (if decide (0<k)==high then lastR d else leastR d)).2)
def endsGo:List (List (Int×Int)×Int)→Int→Int→Int×Int×Bool
 | [],lo,hi=>(lo,hi,true)
 |(x,k)::ts,lo,hi=>if(endW x k false).2 then endsGo ts (wr (lo+(endW x k false).1)) (wr (hi+(endW x k true).1))else(0,0,false)
def termsOf (d:Doms)(vars coefs:List Int):List (List (Int×Int)×Int):=(vars.zip coefs).map fun p=>(domAt d p.1,p.2)
def endsW (d:Doms)(vars coefs:List Int):Int×Int×Bool:=endsGo (termsOf d vars coefs) 0 0
def endR (d:List (Int×Int))(k:Int):Int×Int×Bool:=(min (wr (k*(endsR d).1)) (wr (k*(endsR d).2.1)),max (wr (k*(endsR d).1)) (wr (k*(endsR d).2.1)),(endsR d).2.2)
def endsRGo:List (List (Int×Int)×Int)→Int→Int→Int×Int×Bool
 | [],lo,hi=>(lo,hi,true)
 |(x,k)::ts,lo,hi=>if(endR x k).2.2 then endsRGo ts (wr (lo+(endR x k).1)) (wr (hi+(endR x k).2.1))else(0,0,false)
def endsRW (d:Doms)(vars coefs:List Int):Int×Int×Bool:=endsRGo (termsOf d vars coefs) 0 0
def lowE (d:List (Int×Int))(k:Int):Int:=if 0<k then k*leastR d else k*lastR d
def highE (d:List (Int×Int))(k:Int):Int:=if 0<k then k*lastR d else k*leastR d
def lowS (ts:List (List (Int×Int)×Int)):Int:=(ts.map fun t=>lowE t.1 t.2).sum
def highS (ts:List (List (Int×Int)×Int)):Int:=(ts.map fun t=>highE t.1 t.2).sum
def absK (k:Int):Int:=max k (-k)
def weightK (coefs:List Int):Int:=(coefs.map fun k=>absK k*1048576).sum
theorem absK_pos (k:Int):0≤absK k:=by unfold absK;omega
theorem mul_in (k x:Int)(h1: -1048576≤x)(h2:x≤1048576): -(absK k*1048576)≤k*x∧k*x≤absK k*1048576:=by
 unfold absK
 by_cases hk:0≤k
 ·have e1:=Int.mul_le_mul_of_nonneg_left h2 hk
  have e2:=Int.mul_le_mul_of_nonneg_left h1 hk
  rw[show max k (-k)=k by omega]
  omega
 ·have hk':0≤-k:=by omega
  have e1:=Int.mul_le_mul_of_nonneg_left h2 hk'
  have e2:=Int.mul_le_mul_of_nonneg_left h1 hk'
  rw[Int.neg_mul]at e1 e2
  rw[show max k (-k)= -k by omega]
  rw[Int.neg_mul]at e1 e2⊢
  omega
theorem ends_in {d:List (Int×Int)}(h:Fine d)(hne:d≠[]): -1048576≤leastR d∧leastR d≤lastR d∧lastR d≤1048576:=by
 have h1:=least_mem h.ok hne
 have h2:=last_mem h.ok hne
 have:=h.val _ h1
 have:=h.val _ h2
 have:=le_last h.ok h1
 omega
theorem lowE_in {d:List (Int×Int)}(h:Fine d)(hne:d≠[])(k:Int): -(absK k*1048576)≤lowE d k∧lowE d k≤highE d k∧highE d k≤absK k*1048576:=by
 obtain⟨h1,h2,h3⟩:=ends_in h hne
 have m1:=mul_in k (leastR d) h1 (by omega)
 have m2:=mul_in k (lastR d) (by omega) h3
 unfold lowE highE
 by_cases hk:0<k
 ·rw[if_pos hk,if_pos hk]
  have:=Int.mul_le_mul_of_nonneg_left h2 (show 0≤k by omega)
  omega
 ·rw[if_neg hk,if_neg hk]
  have:=Int.mul_le_mul_of_nonpos_left (show k≤0 by omega) h2
  omega
def CoefOk (k:Int):Prop:=k≠0∧absK k≤4398046511104
theorem mulI_ok {k x:Int}(hk:CoefOk k)(h1: -1048576≤x)(h2:x≤1048576):mulI k x=(k*x,true):=by
 have m:=mul_in k x h1 h2
 have h3:=hk.2
 unfold mulI smallI
 have e:absK k=max k (-k):=rfl
 rw[if_pos]
 simp only[Bool.and_eq_true,decide_eq_true_eq]
 omega
theorem endW_ok {d:List (Int×Int)}{k:Int}(h:Fine d)(hne:d≠[])(hk:CoefOk k):endW d k false=(lowE d k,true)∧endW d k true=(highE d k,true):=by
 obtain⟨h1,h2,h3⟩:=ends_in h hne
 have hb:d.isEmpty=false:=by cases d with
  |nil=>exact absurd rfl hne
  |cons r d=>rfl
 unfold endW lowE highE
 rw[hb]
 by_cases hp:0<k
 ·rw[decide_eq_true hp,if_pos hp,if_pos hp]
  simp only[Bool.not_false,Bool.true_and,beq_self_eq_true,if_true]
  rw[if_neg (by decide),mulI_ok hk h1 (by omega),mulI_ok hk (by omega) h3]
  exact⟨rfl,rfl⟩
 ·rw[decide_eq_false hp,if_neg hp,if_neg hp]
  simp only[Bool.not_false,Bool.true_and,beq_self_eq_true,if_true]
  rw[if_neg (by decide),mulI_ok hk h1 (by omega),mulI_ok hk (by omega) h3]
  exact⟨rfl,rfl⟩
theorem endW_empty (k:Int)(hk:CoefOk k)(high:Bool):endW [] k high=(0,false):=by
 unfold endW
 have:mulI k 0=(0,true):=by have:=mulI_ok hk (x:=0) (by decide) (by decide);simpa using this
 simp only[lastR,leastR,List.getLast?_nil,ite_self,this]
 rfl
theorem endR_ok {d:List (Int×Int)}{k:Int}(h:Fine d)(hne:d≠[])(hk:CoefOk k):endR d k=(lowE d k,highE d k,true):=by
 obtain⟨h1,h2,h3⟩:=ends_in h hne
 have m1:=mul_in k (leastR d) h1 (by omega)
 have m2:=mul_in k (lastR d) (by omega) h3
 have h4:=hk.2
 unfold endR wr
 rw[endsR_eq h.ok hne]
 simp only
 rw[wrap_id (by omega) (by omega),wrap_id (by omega) (by omega)]
 unfold lowE highE
 by_cases hp:0<k
 ·rw[if_pos hp,if_pos hp]
  have:=Int.mul_le_mul_of_nonneg_left h2 (show 0≤k by omega)
  rw[show min (k*leastR d) (k*lastR d)=k*leastR d by omega,show max (k*leastR d) (k*lastR d)=k*lastR d by omega]
 ·rw[if_neg hp,if_neg hp]
  have:=Int.mul_le_mul_of_nonpos_left (show k≤0 by omega) h2
  rw[show min (k*leastR d) (k*lastR d)=k*lastR d by omega,show max (k*leastR d) (k*lastR d)=k*leastR d by omega]
theorem endR_empty (k:Int):(endR [] k).2.2=false:=rfl
def TermsOk (ts:List (List (Int×Int)×Int)):Prop:= ∀t∈ts,Fine t.1∧CoefOk t.2
def weightT (ts:List (List (Int×Int)×Int)):Int:=weightK (ts.map (·.2))
theorem weightT_cons (t:List (Int×Int)×Int)(ts):weightT (t::ts)=absK t.2*1048576+weightT ts:=by simp[weightT,weightK]
theorem weightT_pos: ∀ts,0≤weightT ts
 | []=>by simp[weightT,weightK]
 |t::ts=>by
  rw[weightT_cons]
  have:=weightT_pos ts
  have:=absK_pos t.2
  omega
theorem sums_in: ∀{ts:List (List (Int×Int)×Int)},TermsOk ts→(∀t∈ts,t.1≠[])→-weightT ts≤lowS ts∧lowS ts≤highS ts∧highS ts≤weightT ts
 | [],_,_=>by simp[weightT,weightK,lowS,highS]
 |t::ts,h,hne=>by
  obtain⟨h1,h2,h3⟩:=sums_in (ts:=ts) (fun t ht=>h t (.tail _ ht)) (fun t ht=>hne t (.tail _ ht))
  obtain⟨h4,h5,h6⟩:=lowE_in (h t (.head _)).1 (hne t (.head _)) t.2
  rw[weightT_cons]
  simp only[lowS,highS,List.map_cons,List.sum_cons]at h1 h2 h3⊢
  omega
theorem endsGo_ok: ∀{ts:List (List (Int×Int)×Int)} (lo hi:Int),TermsOk ts→(∀t∈ts,t.1≠[])→-4611686018427388928≤lo-weightT ts→lo+weightT ts≤4611686018427388928→-4611686018427388928≤hi-weightT ts→hi+weightT ts≤4611686018427388928→endsGo ts lo hi=(lo+lowS ts,hi+highS ts,true)
 | [],lo,hi,_,_,_,_,_,_=>by simp[endsGo,lowS,highS]
 |(x,k)::ts,lo,hi,h,hne,h1,h2,h3,h4=>by
  obtain⟨hf,hk⟩:=h _ (.head _)
  have hx:=hne _ (.head _)
  obtain⟨e1,e2⟩:=endW_ok hf hx hk
  obtain⟨b1,b2,b3⟩:=lowE_in hf hx k
  have hp:=weightT_pos ts
  rw[weightT_cons]at h1 h2 h3 h4
  simp only at h1 h2 h3 h4 e1 e2 b1 b2 b3
  rw[endsGo,e1,e2,if_pos rfl]
  simp only[wr]
  rw[wrap_id (by omega) (by omega),wrap_id (by omega) (by omega),endsGo_ok _ _ (fun t ht=>h t (.tail _ ht)) (fun t ht=>hne t (.tail _ ht)) (by omega) (by omega) (by omega) (by omega)]
  simp only[lowS,highS,List.map_cons,List.sum_cons,Prod.mk.injEq,and_true]
  omega
theorem endsRGo_ok: ∀{ts:List (List (Int×Int)×Int)} (lo hi:Int),TermsOk ts→(∀t∈ts,t.1≠[])→-4611686018427388928≤lo-weightT ts→lo+weightT ts≤4611686018427388928→-4611686018427388928≤hi-weightT ts→hi+weightT ts≤4611686018427388928→endsRGo ts lo hi=(lo+lowS ts,hi+highS ts,true)
 | [],lo,hi,_,_,_,_,_,_=>by simp[endsRGo,lowS,highS]
 |(x,k)::ts,lo,hi,h,hne,h1,h2,h3,h4=>by
  obtain⟨hf,hk⟩:=h _ (.head _)
  have hx:=hne _ (.head _)
  have e1:=endR_ok hf hx hk
  obtain⟨b1,b2,b3⟩:=lowE_in hf hx k
  have hp:=weightT_pos ts
  rw[weightT_cons]at h1 h2 h3 h4
  simp only at h1 h2 h3 h4 e1 b1 b2 b3
  rw[endsRGo,e1,if_pos rfl]
  simp only[wr]
  rw[wrap_id (by omega) (by omega),wrap_id (by omega) (by omega),endsRGo_ok _ _ (fun t ht=>h t (.tail _ ht)) (fun t ht=>hne t (.tail _ ht)) (by omega) (by omega) (by omega) (by omega)]
  simp only[lowS,highS,List.map_cons,List.sum_cons,Prod.mk.injEq,and_true]
  omega
theorem endsGo_empty: ∀{ts:List (List (Int×Int)×Int)} (lo hi:Int),TermsOk ts→(∃t∈ts,t.1=[])→endsGo ts lo hi=(0,0,false)∧endsRGo ts lo hi=(0,0,false)
 | [],lo,hi,_,h=>by obtain⟨t,ht,_⟩:=h;cases ht
 |(x,k)::ts,lo,hi,h,he=>by
  obtain⟨hf,hk⟩:=h _ (.head _)
  by_cases hx:x=[]
  ·subst hx
   rw[endsGo,endsRGo,endW_empty k hk,endR_empty]
   exact⟨rfl,rfl⟩
  ·obtain⟨e1,e2⟩:=endW_ok hf hx hk
   have e3:=endR_ok hf hx hk
   simp only at e1 e2 e3
   rw[endsGo,endsRGo,e1,e2,e3,if_pos rfl,if_pos rfl]
   refine endsGo_empty _ _ (fun t ht=>h t (.tail _ ht)) ?_
   obtain⟨t,ht,e⟩:=he
   cases ht with
   |head=>exact absurd e hx
   |tail _ ht=>exact⟨t,ht,e⟩
theorem ends_same {ts:List (List (Int×Int)×Int)}(h:TermsOk ts)(hw:weightT ts≤4611686018427388928):endsGo ts 0 0=endsRGo ts 0 0:=by
 by_cases he: ∃t∈ts,t.1=[]
 ·obtain⟨h1,h2⟩:=endsGo_empty 0 0 h he
  rw[h1,h2]
 ·have hne: ∀t∈ts,t.1≠[]:=fun t ht e=>he ⟨t,ht,e⟩
  rw[endsGo_ok 0 0 h hne (by omega) (by omega) (by omega) (by omega),endsRGo_ok 0 0 h hne (by omega) (by omega) (by omega) (by omega)]
theorem ismall_spec (l:List Int)(hl:l.length*8≤140737488355328):Spec Tryz.prog 164 false [ints l] [.val (.bool (l.all smallI))]:=by
 refine Spec.body Tryz.func164 rfl rfl rfl fun w0 Z0=> ?_
 repeat(refine .A ?_;conv=>whnf)
 refine T.K (T.ind (fun i:Nat=>⟨[(5,.val false (ints l)),(6,.val true (.int .i64 (l.map cI).length)),(7,.val true (.int .i64 i))],[],0⟩) (fun i=>i≤l.length∧(l.take i).all smallI=true) (fun i=>l.length-i) 0 (by simp) (fun _ _ h=>h) ?_)
 rintro i ⟨hi,hd⟩ ih
 repeat(refine .A ?_;conv=>whnf)
 refine T.cd rfl (fun h1=> ?_) (fun h1=> ?_)
 ·have h1:i<l.length:=by simpa using h1
  have hno:smallI l[i]=false→l.all smallI=false:=fun h=>by
   cases h2:l.all smallI with
   |false=>rfl
   |true=>rw[List.all_eq_true.1 h2 _ (List.getElem_mem h1)]at h;cases h
  repeat(refine .A ?_;conv=>whnf)
  refine .I (r:=cI l[i]) (row_i h1) ?_
  repeat(refine .A ?_;conv=>whnf)
  refine J.g rfl rfl rfl (fun h2=> ?_) (fun h2=> ?_)
  ·repeat(refine .A ?_;conv=>whnf)
   refine T.ct rfl ?_
   repeat(refine .A ?_;conv=>whnf)
   exact⟨_,.v rfl rfl (by rw[hno];simp[smallI];omega) (fun _=>rfl) .nil⟩
  ·repeat(refine .A ?_;conv=>whnf)
   refine T.cd rfl (fun h3=> ?_) (fun h3=> ?_)
   ·repeat(refine .A ?_;conv=>whnf)
    exact⟨_,.v rfl rfl (by rw[hno];simp[smallI];omega) (fun _=>rfl) .nil⟩
   ·repeat(refine .A ?_;conv=>whnf)
    rw[wrap1 (l:=l.length) (by omega) (by omega)]
    refine T.K (ih (i+1) ⟨by omega,?_⟩ (by omega))
    rw[List.take_succ_eq_append_getElem h1,List.all_append,hd]
    simp[smallI];omega
 ·have h1:i=l.length:=by simp at h1;omega
  subst h1
  rw[List.take_length]at hd
  repeat(refine .A ?_;conv=>whnf)
  exact⟨_,.v rfl rfl (by rw[hd]) (fun _=>rfl) .nil⟩
theorem wrapU (n:Int):IntKind.u64.wrap n=n % 18446744073709551616:=by simp[IntKind.wrap,IntKind.bits,IntKind.signed]
theorem isize_spec (n:Int)(h: -9223372036854775808≤n)(h2:n≤9223372036854775807):Spec Tryz.prog 166 false [.int .i64 n] [.val (.int .u64 ((n.natAbs:Nat):Int))]:=by
 refine Spec.body Tryz.func166 rfl rfl rfl fun w0 Z0=> ?_
 repeat(refine .A ?_;conv=>whnf)
 refine T.cd rfl (fun h3=> ?_) (fun h3=> ?_)
 ·have h3:n<0:=h3
  repeat(refine .A ?_;conv=>whnf)
  exact⟨_,.v rfl rfl (by rw[wrapU,wrapU];congr 1;omega) (fun _=>rfl) .nil⟩
 ·have h3: ¬n<0:=h3
  repeat(refine .A ?_;conv=>whnf)
  exact⟨_,.v rfl rfl (by rw[wrapU];congr 1;omega) (fun _=>rfl) .nil⟩
theorem maskU (a:Nat)(ha:a<18446744073709551616):IntKind.u64.wrap (BitVec.ofInt IntKind.u64.bits (a:Int) &&& BitVec.ofInt IntKind.u64.bits 4294967295).toNat=((a % 4294967296:Nat):Int):=by
 have e:(BitVec.ofInt IntKind.u64.bits (a:Int) &&& BitVec.ofInt IntKind.u64.bits 4294967295).toNat=a % 4294967296:=by
  rw[BitVec.toNat_and]
  have e1:(BitVec.ofInt IntKind.u64.bits (a:Int)).toNat=a:=by
   rw[BitVec.toNat_ofInt]
   have:((2 ^ IntKind.u64.bits:Nat):Int)=18446744073709551616:=rfl
   rw[this]
   omega
  have e2:(BitVec.ofInt IntKind.u64.bits 4294967295).toNat=2 ^ 32-1:=rfl
  rw[e1,e2,Nat.and_two_pow_sub_one_eq_mod]
 rw[e,wrapU]
 omega
theorem shrU (a:Nat):((a:Int)).fdiv (2 ^ (min (32:Int).toNat IntKind.u64.bits))=((a / 4294967296:Nat):Int):=by
 have:(2:Int) ^ (min (32:Int).toNat IntKind.u64.bits)=4294967296:=rfl
 rw[this,Int.fdiv_eq_ediv_of_nonneg _ (by decide)]
 omega
theorem mulU (a b:Nat):(a:Int)*(b:Int)=((a*b:Nat):Int):=(Int.natCast_mul a b).symm
theorem addU_ (a b:Nat):(a:Int)+(b:Int)=((a+b:Nat):Int):=(Int.natCast_add a b).symm
theorem wrapN (a:Nat)(ha:a<18446744073709551616):IntKind.u64.wrap (a:Int)=(a:Int):=by rw[wrapU];omega
theorem wrapM (a:Nat):IntKind.u64.wrap (a:Int)=((a % 18446744073709551616:Nat):Int):=by rw[wrapU];omega
theorem mul64_spec (x y:Nat)(hx:x<18446744073709551616)(hy:y<18446744073709551616):Spec Tryz.prog 165 false [.int .u64 (x:Int),.int .u64 (y:Int)] [.val (.int .u64 ((x*y / 18446744073709551616:Nat):Int)),.val (.int .u64 ((x*y % 18446744073709551616:Nat):Int))]:=by
 obtain⟨bd,bt,bw,hhi⟩:=Lib.mul64_hi x y hx hy
 have ba:=Lib.half_mul_le (a:=x / 4294967296) (b:=y / 4294967296) (by omega) (by omega)
 have bb:=Lib.half_mul_le (a:=x / 4294967296) (b:=y % 4294967296) (by omega) (by omega)
 have bc:=Lib.half_mul_le (a:=x % 4294967296) (b:=y / 4294967296) (by omega) (by omega)
 have ba':x / 4294967296*(y / 4294967296)<18446744073709551616:=by omega
 have bb':x / 4294967296*(y % 4294967296)<18446744073709551616:=by omega
 have bc':x % 4294967296*(y / 4294967296)<18446744073709551616:=by omega
 have bh1:x / 4294967296*(y / 4294967296)+(x / 4294967296*(y % 4294967296)+x % 4294967296*(y % 4294967296) / 4294967296) / 4294967296<18446744073709551616:=by omega
 have bh:x / 4294967296*(y / 4294967296)+(x / 4294967296*(y % 4294967296)+x % 4294967296*(y % 4294967296) / 4294967296) / 4294967296+((x / 4294967296*(y % 4294967296)+x % 4294967296*(y % 4294967296) / 4294967296) % 4294967296+x % 4294967296*(y / 4294967296)) / 4294967296<18446744073709551616:=by
  generalize (x / 4294967296)*(y / 4294967296)=a at*
  generalize (x / 4294967296)*(y % 4294967296)=b at*
  generalize (x % 4294967296)*(y / 4294967296)=c at*
  generalize (x % 4294967296)*(y % 4294967296)=d at*
  omega
 refine Spec.body Tryz.func165 rfl rfl rfl fun w0 Z0=> ?_
 repeat(refine .A ?_;conv=>whnf)
 refine⟨_,.v rfl rfl ?_ (fun _=>rfl) (.v rfl rfl ?_ (fun _=>rfl) .nil)⟩
 ·simp only[maskU x hx,maskU y hy,shrU,mulU,addU_,wrapN _ bd,wrapN _ bb',wrapN _ bt,maskU _ bt,wrapN _ bc',wrapN _ bw,wrapN _ ba',wrapN _ bh1,wrapN _ bh]
  rw[hhi]
 ·rw[mulU,wrapM]
theorem imul_spec (a b:Int)(ha1: -9223372036854775808≤a)(ha2:a≤9223372036854775807)(hb1: -9223372036854775808≤b)(hb2:b≤9223372036854775807):
  Spec Tryz.prog 151 false [.int .i64 a,.int .i64 b] [.val (.int .i64 (mulI a b).1),.val (.bool (mulI a b).2)]:=by
 refine Spec.body Tryz.func151 rfl rfl rfl fun w0 Z0=> ?_
 have hs:=ismall_spec [a,b] (by simp)
 repeat(refine .A ?_;conv=>whnf)
 refine .V ?_
 refine .C hs ?_
 repeat(refine .A ?_;conv=>whnf)
 refine T.cond rfl (fun h=> ?_) (fun h=> ?_)
 ·have e:mulI a b=(0,false):=by
   unfold mulI
   rw[if_neg]
   intro h2
   simp at h h2
   rcases h with h|h
   ·rw[h2.1.1]at h;cases h
   ·rw[h2.1.2]at h;cases h
  rw[e]
  repeat(refine .A ?_;conv=>whnf)
  exact⟨_,.v rfl rfl rfl (fun _=>rfl) (.v rfl rfl rfl (fun _=>rfl) .nil)⟩
 ·have hsa:smallI a=true∧smallI b=true:=by simpa using h
  obtain⟨hsa,hsb⟩:=hsa
  have ha: -4611686018427387904≤a∧a≤4611686018427387904:=by simpa[smallI]using hsa
  have hb: -4611686018427387904≤b∧b≤4611686018427387904:=by simpa[smallI]using hsb
  have hm:=mul64_spec a.natAbs b.natAbs (by omega) (by omega)
  have hab:(a*b).natAbs=a.natAbs*b.natAbs:=Int.natAbs_mul a b
  have hp1:(a<0)≠(b<0)→a*b≤0:=by
   intro hne
   by_cases h1:a<0
   ·have h2: ¬b<0:=fun h2=>hne (by simp[h1,h2])
    exact Int.mul_nonpos_of_nonpos_of_nonneg (by omega) (by omega)
   ·have h2:b<0:=by
     by_cases h2:b<0
     ·exact h2
     ·exact absurd (by simp[h1,h2]) hne
    exact Int.mul_nonpos_of_nonneg_of_nonpos (by omega) (by omega)
  have hp2:(a<0)=(b<0)→0≤a*b:=by
   intro heq
   by_cases h1:a<0
   ·have h2:b<0:=by rw[←heq];exact h1
    exact Int.mul_nonneg_of_nonpos_of_nonpos (by omega) (by omega)
   ·have h2: ¬b<0:=by rw[←heq];exact h1
    exact Int.mul_nonneg (by omega) (by omega)
  have hmi:mulI a b=if smallI (a*b)then(a*b,true)else(0,false):=by simp[mulI,hsa,hsb]
  rw[hmi]
  rw[←hab]at hm
  clear hab hmi
  generalize a*b=p at*
  repeat(refine .A ?_;conv=>whnf)
  refine .C (isize_spec a ha1 ha2) ?_
  repeat(refine .A ?_;conv=>whnf)
  refine .C (isize_spec b hb1 hb2) ?_
  refine .C hm ?_
  repeat(refine .A ?_;conv=>whnf)
  refine J.g rfl rfl rfl (fun h4=> ?_) (fun h4=> ?_)
  ·have h4:((p.natAbs / 18446744073709551616:Nat):Int)≠0:=h4
   repeat(refine .A ?_;conv=>whnf)
   refine T.ct rfl ?_
   have e:smallI p=false:=by simp[smallI];omega
   rw[e]
   repeat(refine .A ?_;conv=>whnf)
   exact⟨_,.v rfl rfl rfl (fun _=>rfl) (.v rfl rfl rfl (fun _=>rfl) .nil)⟩
  ·have h4: ¬((p.natAbs / 18446744073709551616:Nat):Int)≠0:=h4
   repeat(refine .A ?_;conv=>whnf)
   refine T.cd rfl (fun h5=> ?_) (fun h5=> ?_)
   ·have h5:((p.natAbs % 18446744073709551616:Nat):Int) > 4611686018427387904:=h5
    have e:smallI p=false:=by simp[smallI];omega
    rw[e]
    repeat(refine .A ?_;conv=>whnf)
    exact⟨_,.v rfl rfl rfl (fun _=>rfl) (.v rfl rfl rfl (fun _=>rfl) .nil)⟩
   ·have h5: ¬((p.natAbs % 18446744073709551616:Nat):Int) > 4611686018427387904:=h5
    have e:smallI p=true:=by simp[smallI];omega
    rw[e]
    repeat(refine .A ?_;conv=>whnf)
    refine T.cond rfl (fun h6=> ?_) (fun h6=> ?_)
    ·have h7:=hp1 (by intro e;simp[e]at h6)
     repeat(refine .A ?_;conv=>whnf)
     exact⟨_,.v rfl rfl (by simp only[if_true];rw[wrap_id (n:=((p.natAbs % 18446744073709551616:Nat):Int)) (by omega) (by omega),wrap_id (by omega) (by omega)];congr 1;omega) (fun _=>rfl) (.v rfl rfl rfl (fun _=>rfl) .nil)⟩
    ·have h7:=hp2 (by
      by_cases h1:a<0<;>by_cases h2:b<0<;>simp[h1,h2]at h6⊢)
     repeat(refine .A ?_;conv=>whnf)
     exact⟨_,.v rfl rfl (by simp only[if_true];rw[wrap_id (by omega) (by omega)];congr 1;omega) (fun _=>rfl) (.v rfl rfl rfl (fun _=>rfl) .nil)⟩
theorem ends_int {d:List (Int×Int)}(h:InB d): -1048576≤leastR d∧leastR d≤1048576∧-1048576≤lastR d∧lastR d≤1048576:=by
 constructor
 ·cases d with
  |nil=>simp[leastR]
  |cons r d=>exact(h r (.head _)).1
 ·constructor
  ·cases d with
   |nil=>simp[leastR]
   |cons r d=>exact(h r (.head _)).2.1
  ·unfold lastR
   cases hl:d.getLast? with
   |none=>simp
   |some r=>
    have:=h r (List.mem_of_getLast? hl)
    exact⟨this.2.2.1,this.2.2.2⟩
theorem coef_int {k:Int}(h:CoefOk k): -4398046511104≤k∧k≤4398046511104:=by
 have:=h.2
 unfold absK at this
 omega
theorem lend_spec (d:List (Int×Int))(k:Int)(high:Bool)(hd:DomB d)(hk:CoefOk k):Spec Tryz.prog 129 false [dm d,.int .i64 k,.bool high] [.val (.int .i64 (endW d k high).1),.val (.bool (endW d k high).2)]:=by
 refine Spec.body Tryz.func129 rfl rfl rfl fun w0 Z0=> ?_
 obtain⟨h1,h2,h3,h4⟩:=ends_int hd.1
 have hk2:=coef_int hk
 refine T.seq ?_
 refine T.r ?_
 repeat' first|refine J.e rfl rfl rfl rfl ?_|refine J.skip rfl rfl rfl ?_|refine J.bx rfl rfl rfl rfl rfl rfl ?_
 refine J.nil ?_
 refine T.seq ?_
 refine T.r ?_
 repeat' first|refine J.e rfl rfl rfl rfl ?_|refine J.skip rfl rfl rfl ?_|refine J.bx rfl rfl rfl rfl rfl rfl ?_
 refine .C (least_spec d) ?_
 repeat' first|refine J.e rfl rfl rfl rfl ?_|refine J.skip rfl rfl rfl ?_|refine J.bx rfl rfl rfl rfl rfl rfl ?_
 refine J.nil ?_
 refine T.mid ⟨[(1,.val false (.int .i64 k)),(8,.val true (.int .i64 (if decide (0<k)==high then lastR d else leastR d))),(9,.val true (.bool (!d.isEmpty)))],[],0⟩ ?_ ?_
 ·repeat(refine .A ?_;conv=>whnf)
  refine T.cond rfl (fun h=> ?_) (fun h=> ?_)
  ·have h:(decide (0<k)==high)=true:=h
   rw[if_pos h]
   repeat(refine .A ?_;conv=>whnf)
   refine .C (most_spec d (by have:=hd.2.2;omega)) ?_
   repeat(refine .A ?_;conv=>whnf)
   exact⟨rfl,[1,8,9],[],rfl,rfl⟩
  ·have h:(decide (0<k)==high)=false:=h
   rw[h]
   repeat(refine .A ?_;conv=>whnf)
   exact⟨rfl,[1,8,9],[],rfl,rfl⟩
 ·have hm:=imul_spec k (if decide (0<k)==high then lastR d else leastR d) (by omega) (by omega) (by split<;>omega) (by split<;>omega)
  unfold endW
  generalize (if decide (0<k)==high then lastR d else leastR d)=x at*
  generalize mulI k x=m at*
  repeat(refine .A ?_;conv=>whnf)
  refine .C hm ?_
  repeat(refine .A ?_;conv=>whnf)
  refine J.gb rfl rfl rfl (fun h=> ?_) (fun h=> ?_)
  ·rw[h]
   repeat(refine .A ?_;conv=>whnf)
   exact⟨_,.v rfl rfl rfl (fun _=>rfl) (.v rfl rfl (by simp) (fun _=>rfl) .nil)⟩
  ·rw[h]
   repeat(refine .A ?_;conv=>whnf)
   exact⟨_,.v rfl rfl rfl (fun _=>rfl) (.v rfl rfl rfl (fun _=>rfl) .nil)⟩
structure SumIn (d:Doms)(vars coefs:List Int):Prop where
 len:vars.length=coefs.length
 vl:vars.length*8≤140737488355328
 vin: ∀v∈vars,0≤v∧v.toNat<d.length
 ck: ∀k∈coefs,CoefOk k
 dom: ∀x∈d,DomB x
 dl:d.length*24≤140737488355328
theorem terms_cons {d:Doms}{vars coefs:List Int}{i:Nat}(h1:i<vars.length)(h2:i<coefs.length):(termsOf d vars coefs).drop i=(domAt d vars[i],coefs[i])::(termsOf d vars coefs).drop (i+1):=by
 have hl:i<(termsOf d vars coefs).length:=by simp[termsOf];omega
 rw[List.drop_eq_getElem_cons hl]
 simp[termsOf]
theorem terms_end {d:Doms}{vars coefs:List Int}(h:vars.length=coefs.length):(termsOf d vars coefs).drop vars.length=[]:=by
 refine List.drop_of_length_le ?_
 simp[termsOf];omega
theorem lends_spec (d:Doms)(vars coefs:List Int)(h:SumIn d vars coefs):Spec Tryz.prog 131 false [doms d,ints vars,ints coefs] [.val (.int .i64 (endsW d vars coefs).1),.val (.int .i64 (endsW d vars coefs).2.1),.val (.bool (endsW d vars coefs).2.2)]:=by
 refine Spec.body Tryz.func131 rfl rfl rfl fun w0 Z0=> ?_
 obtain⟨hlen,hvl,hvin,hck,hdom,hdl⟩:=h
 repeat(refine .A ?_;conv=>whnf)
 refine T.K (T.ind (fun s:Nat×Int×Int=>⟨[(0,.val false (doms d)),(2,.val false (ints coefs)),(9,.val true (.int .i64 s.2.1)),(10,.val true (.int .i64 s.2.2)),(17,.val false (ints vars)),(18,.val true (.int .i64 (vars.map cI).length)),(19,.val true (.int .i64 s.1))],[],0⟩)
  (fun s=>s.1≤vars.length∧endsGo ((termsOf d vars coefs).drop s.1) s.2.1 s.2.2=endsW d vars coefs) (fun s=>vars.length-s.1) (0,0,0) ⟨by simp,rfl⟩ (fun _ _ h=>h) ?_)
 rintro⟨i,lo,hi⟩ ⟨hil,he⟩ ih
 simp only at hil he
 dsimp only
 repeat(refine .A ?_;conv=>whnf)
 refine T.cd rfl (fun h1=> ?_) (fun h1=> ?_)
 ·have h1:i<vars.length:=by simpa using h1
  have h2:i<coefs.length:=by omega
  have hv:=hvin _ (List.getElem_mem h1)
  have hk:=hck _ (List.getElem_mem h2)
  have hx:=hdom _ (domAt_mem hv.2)
  have hrow:(d.map cD)[vars[i].toNat]? =some (cD (domAt d vars[i])):=by simp[domAt_some hv.2]
  rw[terms_cons h1 h2,endsGo]at he
  repeat(refine .A ?_;conv=>whnf)
  refine .I (r:=cI vars[i]) (row_i h1) ?_
  repeat(refine .A ?_;conv=>whnf)
  refine J.i rfl rfl rfl rfl rfl rfl rfl rfl rfl (r:=cD (domAt d vars[i])) hv.1 hrow rfl ?_
  repeat(refine .A ?_;conv=>whnf)
  refine .I (r:=cI coefs[i]) (row_i h2) ?_
  repeat(refine .A ?_;conv=>whnf)
  refine J.cc rfl rfl rfl rfl rfl (lend_spec _ _ false hx hk) rfl rfl ?_
  repeat(refine .A ?_;conv=>whnf)
  refine J.i rfl rfl rfl rfl rfl rfl rfl rfl rfl (r:=cD (domAt d vars[i])) hv.1 hrow rfl ?_
  repeat(refine .A ?_;conv=>whnf)
  refine .I (r:=cI coefs[i]) (row_i h2) ?_
  repeat(refine .A ?_;conv=>whnf)
  refine J.cc rfl rfl rfl rfl rfl (lend_spec _ _ true hx hk) rfl rfl ?_
  generalize endW (domAt d vars[i]) coefs[i] false=e1 at*
  generalize endW (domAt d vars[i]) coefs[i] true=e2 at*
  obtain⟨n1,b1⟩:=e1
  repeat(refine .A ?_;conv=>whnf)
  cases b1
  ·simp only[Bool.false_eq_true,if_false]at he
   repeat(refine .A ?_;conv=>whnf)
   refine T.ct rfl ?_
   repeat(refine .A ?_;conv=>whnf)
   exact⟨_,.v rfl rfl (by rw[←he]) (fun _=>rfl) (.v rfl rfl (by rw[←he]) (fun _=>rfl) (.v rfl rfl (by rw[←he]) (fun _=>rfl) .nil))⟩
  ·simp only[if_true]at he
   repeat(refine .A ?_;conv=>whnf)
   refine T.cf rfl ?_
   repeat(refine .A ?_;conv=>whnf)
   rw[wrap1 (l:=vars.length) (by omega) (by omega)]
   exact T.K (ih (i+1,wr (lo+n1),wr (hi+e2.1)) ⟨by simp only;omega,he⟩ (by simp only;omega))
 ·have h1:i=vars.length:=by simp at h1;omega
  subst h1
  rw[terms_end hlen]at he
  repeat(refine .A ?_;conv=>whnf)
  exact⟨_,.v rfl rfl (by rw[←he];rfl) (fun _=>rfl) (.v rfl rfl (by rw[←he];rfl) (fun _=>rfl) (.v rfl rfl (by rw[←he];rfl) (fun _=>rfl) .nil))⟩
theorem rend_spec (d:List (Int×Int))(k:Int)(hd:DomB d):Spec Tryz.prog 133 false [dm d,.int .i64 k] [.val (.int .i64 (endR d k).1),.val (.int .i64 (endR d k).2.1),.val (.bool (endR d k).2.2)]:=by
 refine Spec.body Tryz.func133 rfl rfl rfl fun w0 Z0=> ?_
 repeat(refine .A ?_;conv=>whnf)
 refine .C (ends_spec d hd) ?_
 repeat(refine .A ?_;conv=>whnf)
 exact⟨_,.v rfl rfl rfl (fun _=>rfl) (.v rfl rfl rfl (fun _=>rfl) (.v rfl rfl rfl (fun _=>rfl) .nil))⟩
theorem rends_spec (d:Doms)(vars coefs:List Int)(h:SumIn d vars coefs):Spec Tryz.prog 152 false [doms d,ints vars,ints coefs] [.val (.int .i64 (endsRW d vars coefs).1),.val (.int .i64 (endsRW d vars coefs).2.1),.val (.bool (endsRW d vars coefs).2.2)]:=by
 refine Spec.body Tryz.func152 rfl rfl rfl fun w0 Z0=> ?_
 obtain⟨hlen,hvl,hvin,hck,hdom,hdl⟩:=h
 repeat(refine .A ?_;conv=>whnf)
 refine T.K (T.ind (fun s:Nat×Int×Int=>⟨[(0,.val false (doms d)),(1,.val false (ints vars)),(2,.val false (ints coefs)),(9,.val true (.int .i64 s.2.1)),(10,.val true (.int .i64 s.2.2)),(11,.val true (.int .i64 s.1))],[],0⟩)
  (fun s=>s.1≤vars.length∧endsRGo ((termsOf d vars coefs).drop s.1) s.2.1 s.2.2=endsRW d vars coefs) (fun s=>vars.length-s.1) (0,0,0) ⟨by simp,rfl⟩ (fun _ _ h=>h) ?_)
 rintro⟨i,lo,hi⟩ ⟨hil,he⟩ ih
 simp only at hil he
 dsimp only
 repeat(refine .A ?_;conv=>whnf)
 refine T.cd rfl (fun h1=> ?_) (fun h1=> ?_)
 ·have h1:i<vars.length:=by simpa using h1
  have h2:i<coefs.length:=by omega
  have hv:=hvin _ (List.getElem_mem h1)
  have hx:=hdom _ (domAt_mem hv.2)
  have hrow:(d.map cD)[vars[i].toNat]? =some (cD (domAt d vars[i])):=by simp[domAt_some hv.2]
  rw[terms_cons h1 h2,endsRGo]at he
  repeat(refine .A ?_;conv=>whnf)
  refine .I (r:=cI vars[i]) (row_i h1) ?_
  repeat(refine .A ?_;conv=>whnf)
  refine J.i rfl rfl rfl rfl rfl rfl rfl rfl rfl (r:=cD (domAt d vars[i])) hv.1 hrow rfl ?_
  repeat(refine .A ?_;conv=>whnf)
  refine .I (r:=cI coefs[i]) (row_i h2) ?_
  repeat(refine .A ?_;conv=>whnf)
  refine J.cc rfl rfl rfl rfl rfl (rend_spec _ coefs[i] hx) rfl rfl ?_
  generalize endR (domAt d vars[i]) coefs[i]=e1 at*
  obtain⟨n1,n2,b1⟩:=e1
  cases b1
  ·simp only[Bool.false_eq_true,if_false]at he
   repeat(refine .A ?_;conv=>whnf)
   refine T.ct rfl ?_
   repeat(refine .A ?_;conv=>whnf)
   exact⟨_,.v rfl rfl (by rw[←he]) (fun _=>rfl) (.v rfl rfl (by rw[←he]) (fun _=>rfl) (.v rfl rfl (by rw[←he]) (fun _=>rfl) .nil))⟩
  ·simp only[if_true]at he
   repeat(refine .A ?_;conv=>whnf)
   refine T.cf rfl ?_
   repeat(refine .A ?_;conv=>whnf)
   rw[wrap1 (l:=vars.length) (by omega) (by omega)]
   exact T.K (ih (i+1,wr (lo+n1),wr (hi+n2)) ⟨by simp only;omega,he⟩ (by simp only;omega))
 ·have h1:i=vars.length:=by simp at h1;omega
  subst h1
  rw[terms_end hlen]at he
  repeat(refine .A ?_;conv=>whnf)
  exact⟨_,.v rfl rfl (by rw[←he];rfl) (fun _=>rfl) (.v rfl rfl (by rw[←he];rfl) (fun _=>rfl) (.v rfl rfl (by rw[←he];rfl) (fun _=>rfl) .nil))⟩
theorem lown_spec (d:Doms)(hl:d.length*24≤140737488355328)(hx: ∀x∈d,x.length*16≤140737488355328):Spec Tryz.prog 81 false [doms d] [.own 45 1 ((if []∈d then []else d).map cD),.val (.bool (!decide ([]∈d)))]:=by
 refine Spec.body Tryz.func81 rfl rfl rfl fun w0 Z0=> ?_
 repeat(refine .A ?_;conv=>whnf)
 refine T.sub (Rel.own0 (s:=4) 45 1 rfl) ?_
 refine T.K (T.listI d (fun pre=>[]∉pre) (fun n pre post=>⟨[(4,.ref 0),(7,.val false (doms d)),(8,.val true (.int .i64 (d.map cD).length)),(9,.val true (.int .i64 n))],[(0,some (.sl 45 1 true (pre.map cD)))],1⟩) (fun _ _ h=>h) (by simp) ?_ ?_)
 ·rintro n pre x post h hn hi ih
  have hlt:=at_lt h hn
  have hxl:=hx x (by rw[h];simp)
  repeat(refine .A ?_;conv=>whnf)
  refine T.ct2 rfl (lt_at h hn) ?_
  repeat(refine .A ?_;conv=>whnf)
  refine .I (r:=cD x) (row_at h hn) ?_
  repeat(refine .A ?_;conv=>whnf)
  refine T.cd rfl (fun h1=> ?_) (fun h1=> ?_)
  ·have hx:x=[]:=by simp at h1;exact h1
   have hm: []∈d:=by rw[h,hx];simp
   rw[if_pos hm,decide_eq_true hm]
   repeat(refine .A ?_;conv=>whnf)
   exact⟨_,.ownN rfl (.v rfl rfl rfl (fun _=>rfl) .nil)⟩
  ·have hx:x≠[]:=fun e=>h1 (by rw[e];rfl)
   repeat(refine .A ?_;conv=>whnf)
   refine .C (clone_spec x (by omega)).frz ?_
   repeat(refine .A ?_;conv=>whnf)
   refine .V ?_
   repeat(refine .A ?_;conv=>whnf)
   refine J.aD rfl rfl rfl rfl rfl rfl rfl rfl rfl rfl rfl rfl rfl rfl rfl rfl rfl rfl rfl (by omega) ?_
   repeat(refine .A ?_;conv=>whnf)
   rw[wrap1 hlt (by omega)]
   exact T.K (ih (by simp[hi,Ne.symm hx]))
 ·intro hi
  repeat(refine .A ?_;conv=>whnf)
  refine T.cf2 rfl lt_end ?_
  repeat(refine .A ?_;conv=>whnf)
  exact⟨_,.o rfl rfl (by rw[if_neg hi]) (fun _=> .inl rfl) (by simp) (.v rfl rfl (by simp[hi]) (fun _=>rfl) .nil)⟩
def floorW (a b:Int):Int:=if a.tmod b<0 then wr (wr (a.tdiv b)-1)else wr (a.tdiv b)
theorem floor_spec (a b:Int)(hb:b≠0):Spec Tryz.prog 132 false [.int .i64 a,.int .i64 b] [.val (.int .i64 (floorW a b))]:=by
 refine Spec.body Tryz.func132 rfl rfl rfl fun w0 Z0=> ?_
 unfold floorW
 repeat(refine .A ?_;conv=>whnf)
 refine J.qu rfl rfl rfl rfl rfl rfl hb ?_
 repeat(refine .A ?_;conv=>whnf)
 refine J.rm rfl rfl rfl rfl rfl rfl hb ?_
 repeat(refine .A ?_;conv=>whnf)
 refine T.cd rfl (fun h=> ?_) (fun h=> ?_)
 ·have h:a.tmod b<0:=h
  repeat(refine .A ?_;conv=>whnf)
  exact⟨_,.v rfl rfl (by rw[if_pos h]) (fun _=>rfl) .nil⟩
 ·have h: ¬a.tmod b<0:=h
  repeat(refine .A ?_;conv=>whnf)
  exact⟨_,.v rfl rfl (by rw[if_neg h]) (fun _=>rfl) .nil⟩
def turnedW (l:List Int):List Int:=l.map fun k=>wr (0-k)
theorem lturned_spec (l:List Int)(hl:l.length*8≤140737488355328):Spec Tryz.prog 83 false [ints l] [.own 3 1 ((turnedW l).map cI)]:=by
 refine Spec.body Tryz.func83 rfl rfl rfl fun w0 Z0=> ?_
 repeat(refine .A ?_;conv=>whnf)
 refine T.sub (Rel.own0 (s:=3) 3 1 rfl) ?_
 refine T.K (T.list l (fun n pre post=>⟨[(3,.ref 0),(6,.val false (ints l)),(7,.val true (.int .i64 (l.map cI).length)),(8,.val true (.int .i64 n))],[(0,some (.sl 3 1 true ((turnedW pre).map cI)))],1⟩) (fun _ _ h=>h) ?_ ?_)
 ·rintro n pre x post h hn ih
  have hlt:=at_lt h hn
  repeat(refine .A ?_;conv=>whnf)
  refine T.ct2 rfl (lt_at h hn) ?_
  repeat(refine .A ?_;conv=>whnf)
  refine .I (r:=cI x) (row_at h hn) ?_
  repeat(refine .A ?_;conv=>whnf)
  refine .V ?_
  refine J.aI rfl rfl rfl rfl rfl rfl rfl rfl rfl rfl rfl rfl rfl rfl rfl rfl rfl rfl rfl (by simp[turnedW];omega) ?_
  repeat(refine .A ?_;conv=>whnf)
  rw[wrap1 hlt (by omega),show turnedW pre++[IntKind.i64.wrap (0-x)]=turnedW (pre++[x])by simp[turnedW]]
  exact T.K ih
 ·repeat(refine .A ?_;conv=>whnf)
  refine T.cf2 rfl lt_end ?_
  repeat(refine .A ?_;conv=>whnf)
  exact⟨_,.o rfl rfl rfl (fun _=> .inl rfl) (by simp) .nil⟩
theorem rturned_spec (l:List Int)(hl:l.length*8≤140737488355328):Spec Tryz.prog 88 false [ints l] [.own 3 1 ((turnedW l).map cI)]:=by
 refine Spec.body Tryz.func88 rfl rfl rfl fun w0 Z0=> ?_
 repeat(refine .A ?_;conv=>whnf)
 refine .O ?_
 repeat(refine .A ?_;conv=>whnf)
 refine T.K (T.list l (fun n pre post=>⟨[(0,.val false (ints l)),(3,.ref 0),(4,.val true (.int .i64 n))],[(0,some (.sl 3 1 true ((turnedW pre).map cI)))],1⟩) (fun _ _ h=>h) ?_ ?_)
 ·rintro n pre x post h hn ih
  have hlt:=at_lt h hn
  repeat(refine .A ?_;conv=>whnf)
  refine T.ct2 rfl (lt_at h hn) ?_
  repeat(refine .A ?_;conv=>whnf)
  refine .I (r:=cI x) (row_at h hn) ?_
  repeat(refine .A ?_;conv=>whnf)
  refine .V ?_
  refine J.aI rfl rfl rfl rfl rfl rfl rfl rfl rfl rfl rfl rfl rfl rfl rfl rfl rfl rfl rfl (by simp[turnedW];omega) ?_
  repeat(refine .A ?_;conv=>whnf)
  rw[wrap1 hlt (by omega),show turnedW pre++[IntKind.i64.wrap (0-x)]=turnedW (pre++[x])by simp[turnedW]]
  exact T.K ih
 ·repeat(refine .A ?_;conv=>whnf)
  refine T.cf2 rfl lt_end ?_
  repeat(refine .A ?_;conv=>whnf)
  exact⟨_,.o rfl rfl rfl (fun _=> .inl rfl) (by simp) .nil⟩
theorem clonei_spec (l:List Int)(hl:l.length*8≤140737488355328):Spec Tryz.prog 118 false [ints l] [.own 3 1 (l.map cI)]:=by
 refine Spec.body Tryz.func118 rfl rfl rfl fun w0 Z0=> ?_
 repeat(refine .A ?_;conv=>whnf)
 refine J.nc rfl rfl rfl rfl rfl rfl rfl fun b hb=> ?_
 repeat(refine .A ?_;conv=>whnf)
 cases b
 ·refine T.cf rfl ?_
  repeat(refine .A ?_;conv=>whnf)
  refine .O ?_
  repeat(refine .A ?_;conv=>whnf)
  refine J.a rfl rfl rfl rfl rfl rfl rfl rfl rfl rfl rfl rfl rfl rfl rfl rfl rfl len_I (by show(0+List.length _)*8≤_;simp;omega) ?_
  repeat(refine .A ?_;conv=>whnf)
  exact⟨_,.o rfl rfl rfl (fun _=> .inr flat_I) (by simp) .nil⟩
 ·have:l=[]:=by simpa using hb rfl
  subst this
  refine T.ct rfl ?_
  repeat(refine .A ?_;conv=>whnf)
  exact⟨_,.ownN rfl .nil⟩
theorem told_spec (d:Doms)(hl:d.length*8≤140737488355328):Spec Tryz.prog 85 true [doms d] ([doms (if []∈d then []else d),.bool (!decide ([]∈d))].map .val):=by
 refine Spec.body Tryz.func85 rfl rfl rfl fun w0 Z0=> ?_
 repeat(refine .A ?_;conv=>whnf)
 refine .C (empty_spec d hl) ?_
 repeat(refine .A ?_;conv=>whnf)
 by_cases hm: []∈d
 ·rw[if_pos hm,decide_eq_true hm]
  refine T.ct rfl ?_
  repeat(refine .A ?_;conv=>whnf)
  exact⟨_,.v rfl rfl rfl (fun h=>by cases h) (.v rfl rfl rfl (fun h=>by cases h) .nil)⟩
 ·rw[if_neg hm,decide_eq_false hm]
  refine T.cf rfl ?_
  repeat(refine .A ?_;conv=>whnf)
  exact⟨_,.v rfl rfl rfl (fun h=>by cases h) (.v rfl rfl rfl (fun h=>by cases h) .nil)⟩
def sizeW (d:List (Int×Int)):Int:=d.foldl (fun n r=>wr (n+wr (wr (r.2-r.1)+1))) 0
theorem size_spec (d:List (Int×Int))(hl:d.length*8≤140737488355328):Spec Tryz.prog 51 false [dm d] [.val (.int .i64 (sizeW d))]:=by
 refine Spec.body Tryz.func51 rfl rfl rfl fun w0 Z0=> ?_
 repeat(refine .A ?_;conv=>whnf)
 refine T.K (T.list d (fun n pre post=>⟨[(3,.val true (.int .i64 (sizeW pre))),(6,.val false (dm d)),(7,.val true (.int .i64 (d.map cR).length)),(8,.val true (.int .i64 n))],[],0⟩) (fun _ _ h=>h) ?_ ?_)
 ·rintro n pre x post h hn ih
  have hlt:=at_lt h hn
  repeat(refine .A ?_;conv=>whnf)
  refine T.ct2 rfl (lt_at h hn) ?_
  repeat(refine .A ?_;conv=>whnf)
  refine .I (r:=cR x) (row_at h hn) ?_
  repeat(refine .A ?_;conv=>whnf)
  refine J.al rfl rfl rfl rfl rfl rfl rfl ?_
  repeat(refine .A ?_;conv=>whnf)
  refine J.w rfl rfl rfl rfl rfl rfl rfl rfl rfl rfl ?_
  repeat(refine .A ?_;conv=>whnf)
  rw[wrap1 hlt (by omega),show IntKind.i64.wrap (sizeW pre+IntKind.i64.wrap (IntKind.i64.wrap (x.2-x.1)+1))=sizeW (pre++[x])by simp[sizeW]]
  exact T.K ih
 ·repeat(refine .A ?_;conv=>whnf)
  refine T.cf2 rfl lt_end ?_
  repeat(refine .A ?_;conv=>whnf)
  exact⟨_,.v rfl rfl rfl (fun _=>rfl) .nil⟩
def sortI (l:List Int):List Int:=l.mergeSort fun x y=>decide (x≤y)
theorem ints_rep {w:World}{Z:Nat→Prop}: ∀{xs:List Int} {vs:List Value},L2 (Rep w Z) vs (xs.map (PV.int .i64))→vs=xs.map (Value.int .i64)
 | [],_,.nil=>rfl
 |x::xs,_,.cons h h2=>by
  cases h
  rw[ints_rep h2];rfl
theorem rep_intsL {w:World}{Z:Nat→Prop}: ∀(xs:List Int),L2 (Rep w Z) (xs.map (Value.int .i64)) (xs.map (PV.int .i64))
 | []=> .nil
 |x::xs=> .cons (.int _ _) (rep_intsL xs)
theorem sort_specM (l:List Int)(hl:l.length*8≤140737488355328):SpecM Tryz.prog 137 3 1 (l.map cI) [] ((sortI l).map cI) []:=by
 have hsl:(sortI l).length=l.length:=List.length_mergeSort ..
 refine⟨⟨_,Tryz.func137,rfl,rfl⟩,fun p hp=>(by cases hp),fun w Z1 v0 vs ho hz hvs=> ?_⟩
 cases hvs
 obtain⟨xs,hrow,hx,h1,h2⟩:=ho
 rw[show(l.map cI).flatten=l.map (PV.int .i64)from flat1 _ l]at hx
 obtain rfl:=ints_rep hx
 rw[List.length_map]at hrow
 obtain⟨hln,hrow⟩:=hrow
 rcases hrow with ⟨rfl,hnil⟩|⟨g,cap,cur,rfl,_,hb,hcap,hmax,hsz,htk⟩
 ·obtain rfl:l=[]:=by simpa using hnil
  refine(sort_calls_none none 0 w).mono ?_
  rintro e w' ⟨rfl,rfl⟩
  refine⟨[],rfl,rfl,rfl,rfl,Nat.le_refl _,fun _ _ _=>rfl,?_,.nil⟩
  rw[show sortI []=[]from List.mergeSort_nil ..]
  refine⟨[],⟨rfl,.inl ⟨rfl,rfl⟩⟩,.nil,?_,?_⟩<;>(intro r hr;cases hr)
 ·have hg:g<w.heap.size:=(Array.getElem?_eq_some_iff.1 hb).1
  rw[Nat.mul_one]at htk
  refine(sort_calls g 0 cap l w (holds_of_blockI hb htk) hg (by omega)).mono ?_
  rintro e w' ⟨rfl,n,os,rfl⟩
  have hgr:=grownBy_sortedI (n:=n) (os:=os) (w:=w) (g:=g) (sortI l).toArray
  refine⟨[],rfl,hgr.os,hgr.tape,hgr.output,hgr.size,fun b hb1 hb2=>hgr.block b hb1 (fun e=>hb2 (by simpa[VB,vblock]using e.symm)),?_,.nil⟩
  have hr:=ownsRow_sortedI (base:=0) (n:=n) (os:=os) (ts:=sortI l) hsl (Nat.zero_le _) hb hcap hmax hsz
  refine⟨(sortI l).map (Value.int .i64),?_,?_,fun r hr=>by obtain⟨x,_,rfl⟩:=List.mem_map.1 hr;rfl,fun r hr p hp=>by obtain⟨x,_,rfl⟩:=List.mem_map.1 hr;simp[cI]at hp;rw[hp];rfl⟩
  ·rw[List.length_map,hsl];exact hr
  ·rw[show((sortI l).map cI).flatten=(sortI l).map (PV.int .i64)from flat1 _ _]
   exact rep_intsL _
theorem ssorted_spec (l:List Int)(hl:l.length*8≤140737488351232):Spec Tryz.prog 116 false [.fn (.func 145) [] [.ptr [ints l]]] [.own 3 1 ((sortI l).map cI)]:=by
 refine Spec.body Tryz.func116 rfl rfl rfl fun w0 Z0=> ?_
 have hc:=collect_spec (g:=145) (caps:=[.ptr [ints l]]) (xs:=l) (enters_of Tryz.func145 (by kernel_rfl) rfl) (fun w Z us h=>by
  cases h with
  |cons h1 h2=>cases h2;exact values1_gives 0 0 l hl w _ h1) (by omega)
 repeat(refine .A ?_;conv=>whnf)
 refine .C hc ?_
 repeat(refine .A ?_;conv=>whnf)
 refine J.cm rfl rfl rfl rfl rfl rfl rfl rfl rfl (sort_specM l (by omega)) rfl rfl rfl ?_
 repeat(refine .A ?_;conv=>whnf)
 exact⟨_,.o rfl rfl rfl (fun _=> .inl rfl) (by simp) .nil⟩
def domOfP (l:List Int):List (Int×Int)×Int:=if l.all valueB=true then(if sizeW (packG (sortI l)) > 4096 then([],2)else(packG (sortI l),0))else([],20)
theorem domOf_spec (l:List Int)(hl:l.length*16≤140737488351232):Spec Tryz.prog 65 false [ints l] [.own 47 2 ((domOfP l).1.map cR),.val (.int .i64 (domOfP l).2)]:=by
 refine Spec.body Tryz.func65 rfl rfl rfl fun w0 Z0=> ?_
 have hc:=containsF_spec (p:=fun v=> !valueB v) (f:=113) l (fun v _=>of1_spec v) (by omega)
 have hsl:(sortI l).length=l.length:=List.length_mergeSort ..
 have hpg:=packG_len (sortI l)
 repeat(refine .A ?_;conv=>whnf)
 refine .C hc ?_
 repeat(refine .A ?_;conv=>whnf)
 have hany:(l.any fun v=> !valueB v)= !l.all valueB:=by
  rw[List.not_all_eq_any_not]
 rw[hany]
 unfold domOfP
 cases ha:l.all valueB with
 |false=>
  refine T.ct rfl ?_
  repeat(refine .A ?_;conv=>whnf)
  exact⟨_,.ownN rfl (.v rfl rfl rfl (fun _=>rfl) .nil)⟩
 |true=>
  refine T.cf rfl ?_
  have hvs: ∀v∈sortI l,valueB v=true:=fun v hv=>List.all_eq_true.1 ha v ((List.mergeSort_perm l _).mem_iff.1 hv)
  repeat(refine .A ?_;conv=>whnf)
  refine .C (svals_spec l) ?_
  repeat(refine .A ?_;conv=>whnf)
  refine .C (ssorted_spec l (by omega)).frz ?_
  repeat(refine .A ?_;conv=>whnf)
  refine .C (packed_spec (sortI l) hvs (by omega)) ?_
  repeat(refine .A ?_;conv=>whnf)
  refine .C (size_spec (packG (sortI l)) (by omega)) ?_
  repeat(refine .A ?_;conv=>whnf)
  refine T.cd rfl (fun h=> ?_) (fun h=> ?_)
  ·rw[if_pos rfl,if_pos h]
   repeat(refine .A ?_;conv=>whnf)
   exact⟨_,.ownN rfl (.v rfl rfl rfl (fun _=>rfl) .nil)⟩
  ·rw[if_pos rfl,if_neg h]
   repeat(refine .A ?_;conv=>whnf)
   exact⟨_,.o rfl rfl rfl (fun _=> .inl rfl) (by simp) (.v rfl rfl rfl (fun _=>rfl) .nil)⟩
theorem listsP_ok (d:Doms)(vs:List Int)(hl:vs.length*24≤140737488355328):(listsP d vs).length*24≤140737488355328∧∀x∈listsP d vs,x.length*8≤140737488355328:=by
 refine⟨by rw[listsP,List.length_map];exact hl,fun x hx=> ?_⟩
 obtain⟨v,_,rfl⟩:=List.mem_map.1 hx
 have:=valsT_len (d.getD v.toNat [])
 omega
def leftU (L:List (List Int))(i:Nat):List Int:=(L.getD i []).filter fun x=>(matchR (L.set i [x])).2
def stepU (L:List (List Int)):List Int→Nat→Doms→Doms
 | [],_,out=>out
 |v::vs,i,out=>stepU L vs (i+1) (out.set v.toNat (domOfP (leftU L i)).1)
def pruneU (d:Doms)(vs:List Int):Option Doms:=if []∈d then none else if(matchR (listsP d vs)).2=true then some (stepU (listsP d vs) vs 0 d)else none
theorem uprune_spec (d:Doms)(c:Con)(hd:SmallD d)(hb: ∀x∈d,InB x)(hx: ∀x∈d,x.length*16≤140737488351232)(hv: ∀v∈c.vars,0≤v∧v.toNat<d.length)(hl:c.vars.length*24≤140737488355328):Spec Tryz.prog 29 false [doms d,.agg (cC c)] (pruneRes (pruneU d c.vars)):=by
 refine Spec.body Tryz.func29 rfl rfl rfl fun w0 Z0=> ?_
 obtain⟨hd1,hd2⟩:=hd
 generalize hR:pruneU d c.vars=R
 unfold pruneU at hR
 repeat(refine .A ?_;conv=>whnf)
 refine T.sub (Rel.own0 (s:=6) 45 1 rfl) ?_
 refine T.K (T.listI d (fun pre=>[]∉pre) (fun n pre post=>⟨[(0,.val false (doms d)),(3,.optr 0 0 0 0),(6,.ref 1),(20,.val false (doms d)),(21,.val true (.int .i64 (d.map cD).length)),(22,.val true (.int .i64 n))],[(0,some (.box false (cC c))),(1,some (.sl 45 1 true (pre.map cD)))],2⟩) (fun _ _ h=>h) (by simp) ?_ ?_)
 ·rintro n pre x post h hn hi ih
  have hlt:=at_lt h hn
  have hxl:=hd2 x (by rw[h];simp)
  repeat(refine .A ?_;conv=>whnf)
  refine T.ct2 rfl (lt_at h hn) ?_
  repeat(refine .A ?_;conv=>whnf)
  refine .I (r:=cD x) (row_at h hn) ?_
  repeat(refine .A ?_;conv=>whnf)
  refine T.cd rfl (fun h1=> ?_) (fun h1=> ?_)
  ·have hx:x=[]:=by simp at h1;exact h1
   have:R=none:=by rw[if_pos (by rw[h,hx];simp)]at hR;exact hR.symm
   subst this
   repeat(refine .A ?_;conv=>whnf)
   exact⟨_,.ownN rfl (.v rfl rfl rfl (fun _=>rfl) .nil)⟩
  ·have hx:x≠[]:=fun e=>h1 (by rw[e];rfl)
   repeat(refine .A ?_;conv=>whnf)
   refine .C (clone_spec x (by omega)).frz ?_
   repeat(refine .A ?_;conv=>whnf)
   refine .V ?_
   repeat(refine .A ?_;conv=>whnf)
   refine J.aD rfl rfl rfl rfl rfl rfl rfl rfl rfl rfl rfl rfl rfl rfl rfl rfl rfl rfl rfl (by omega) ?_
   repeat(refine .A ?_;conv=>whnf)
   rw[wrap1 hlt (by omega)]
   exact T.K (ih (by simp[hi,Ne.symm hx]))
 ·intro hi
  rw[if_neg hi]at hR
  have hlo:=listsP_ok d c.vars hl
  have hlen:(listsP d c.vars).length=c.vars.length:=List.length_map ..
  have hL4: ∀x∈listsP d c.vars,x.length≤4097:=fun x hx=>by
   obtain⟨v,_,rfl⟩:=List.mem_map.1 hx
   exact valsT_len _
  have hsl:=(ulists_spec d c.vars ⟨hd1,hd2⟩ hb hx hv hl).frz
  generalize listsP d c.vars=L at*
  have hsp:=matched_spec L hlo.1 hlo.2
  repeat(refine .A ?_;conv=>whnf)
  refine T.cf2 rfl lt_end ?_
  repeat(refine .A ?_;conv=>whnf)
  refine .C hsl ?_
  repeat(refine .A ?_;conv=>whnf)
  have hR2:(matchR L).2=(matchP L).isSome:=by unfold matchR;cases matchP L<;>rfl
  rw[hR2]at hR
  cases hm:matchP L with
  |none=>
   rw[hm]at hsp hR
   dsimp only at hsp
   obtain rfl:R=none:=by simpa using hR.symm
   refine J.co (qs:=[]) (cs2:=[]) false [] [] rfl rfl rfl rfl rfl rfl hsp trivial rfl rfl rfl rfl rfl rfl rfl fun ns hns=> ?_
   obtain rfl:ns=[]:=List.eq_nil_of_length_eq_zero hns
   repeat(refine .A ?_;conv=>whnf)
   refine T.ct rfl ?_
   repeat(refine .A ?_;conv=>whnf)
   exact⟨_,.ownN rfl (.v rfl rfl rfl (fun _=>rfl) .nil)⟩
  |some b0=>
  rw[hm]at hsp hR
  dsimp only at hsp
  obtain rfl:R=some (stepU L c.vars 0 d):=by simpa using hR.symm
  refine J.co (qs:=[]) (cs2:=[]) false [] [1001,1002] rfl rfl rfl rfl rfl rfl hsp trivial rfl rfl rfl rfl rfl rfl rfl fun ns hns=> ?_
  obtain⟨pm,pb,rfl⟩: ∃pm pb,ns=[pm,pb]:=by
   match ns,hns with
   | [a,b],_=>exact⟨a,b,rfl⟩
  repeat(refine .A ?_;conv=>whnf)
  refine T.cf rfl ?_
  repeat(refine .A ?_;conv=>whnf)
  refine T.K (T.ind (fun x:Nat×Doms=>⟨[(3,.optr 0 0 0 0),(6,.ref 1),(9,.val true (lists L)),(47,.val false (ints c.vars)),(48,.val true (.int .i64 (c.vars.map cI).length)),(49,.val true (.int .i64 x.1))],[(0,some (.box false (cC c))),(1,some (.sl 45 1 true (x.2.map cD)))],2⟩)
   (fun x=>x.1≤c.vars.length∧x.2.length=d.length∧stepU L (c.vars.drop x.1) x.1 x.2=stepU L c.vars 0 d) (fun x=>c.vars.length-x.1) (0,d) ⟨by simp,rfl,rfl⟩ (fun _ _ h=>h) ?_)
  rintro⟨k,out⟩ ⟨hk,hol,hst⟩ ih
  simp only at hk hol hst
  dsimp only
  repeat(refine .A ?_;conv=>whnf)
  refine T.cd rfl (fun h1=> ?_) (fun h1=> ?_)
  rotate_left
  ·have h1:k=c.vars.length:=by simp at h1;omega
   subst h1
   rw[List.drop_length,stepU]at hst
   subst hst
   repeat(refine .A ?_;conv=>whnf)
   exact⟨_,.o rfl rfl rfl (fun _=> .inl rfl) (by simp) (.v rfl rfl rfl (fun _=>rfl) .nil)⟩
  have h1:k<c.vars.length:=by simpa using h1
  rw[List.drop_eq_getElem_cons h1,stepU]at hst
  have hvk:=hv _ (List.getElem_mem h1)
  have hvr:(c.vars.map cI)[((k:Nat):Int).toNat]? =some (cI c.vars[k]):=row_i h1
  have hkL:k<L.length:=by omega
  have hrow:(L.map cL)[((k:Nat):Int).toNat]? =some (cL (L.getD k [])):=by simp[hkL]
  have hml:(L.getD k []).length≤4097:=by
   rw[List.getD_eq_getElem?_getD,List.getElem?_eq_getElem hkL];exact hL4 _ (List.getElem_mem hkL)
  have hw1:IntKind.i64.wrap ((k:Int)+1)=((k+1:Nat):Int):=wrap1 (l:=c.vars.length) h1 (by omega)
  repeat(refine .A ?_;conv=>whnf)
  refine .I (r:=cI c.vars[k]) hvr ?_
  generalize c.vars[k]=v at*
  repeat(refine .A ?_;conv=>whnf)
  refine J.sub (Rel.own0 (s:=14) 3 1 rfl) ?_
  refine .I (r:=cL (L.getD k [])) hrow ?_
  repeat(refine .A ?_;conv=>whnf)
  have hlf:leftU L k=(L.getD k []).filter fun x=>(matchR (L.set k [x])).2:=rfl
  generalize L.getD k []=Lk at*
  have hlL:(leftU L k).length≤Lk.length:=by rw[hlf];exact List.length_filter_le ..
  refine T.K (T.list Lk (fun n pre post=>⟨[(3,.optr 0 0 0 0),(6,.ref 1),(9,.val true (lists L)),(12,.val true (.int .i64 k)),(13,.val true (.int .i64 v)),(14,.ref 2),(47,.val false (ints c.vars)),(48,.val true (.int .i64 (c.vars.map cI).length)),(49,.val true (.int .i64 k)),(57,.val true (ints Lk)),(58,.val true (.int .i64 (Lk.map cI).length)),(59,.val true (.int .i64 n))],
    [(0,some (.box false (cC c))),(1,some (.sl 45 1 true (out.map cD))),(2,some (.sl 3 1 true ((pre.filter fun x=>(matchR (L.set k [x])).2).map cI)))],3⟩) (fun _ _ h=>h) ?_ ?_)
  ·rintro n pre x post h hn ih2
   have hlt:=at_lt h hn
   have hfl:(pre.filter fun x=>(matchR (L.set k [x])).2).length≤pre.length:=List.length_filter_le ..
   have hwn:IntKind.i64.wrap ((n:Int)+1)=((n+1:Nat):Int):=wrap1 hlt (by omega)
   have hset: ∀y∈L.set k [x],y.length*8≤140737488355328:=fun y hy=>by
    rcases List.mem_or_eq_of_mem_set hy with hy|rfl
    ·exact hlo.2 y hy
    ·simp
   have hsp2:=matched_spec (L.set k [x]) (by rw[List.length_set];exact hlo.1) hset
   have hR3:(matchR (L.set k [x])).2=(matchP (L.set k [x])).isSome:=by unfold matchR;cases matchP (L.set k [x])<;>rfl
   repeat(refine .A ?_;conv=>whnf)
   refine T.ct2 rfl (lt_at h hn) ?_
   repeat(refine .A ?_;conv=>whnf)
   refine .I (r:=cI x) (row_at h hn) ?_
   repeat(refine .A ?_;conv=>whnf)
   refine .C (cloneL_spec L hlo.1) ?_
   repeat(refine .A ?_;conv=>whnf)
   refine .V ?_
   repeat(refine .A ?_;conv=>whnf)
   refine J.io rfl rfl rfl rfl rfl rfl rfl rfl rfl (by omega) (by rw[List.length_map];omega) rfl ?_
   repeat(refine .A ?_;conv=>whnf)
   refine J.w1 rfl rfl rfl rfl rfl rfl rfl rfl rfl rfl rfl (z:=[x]) (fun _=>rfl) (by omega) ?_
   repeat(refine .A ?_;conv=>whnf)
   refine J.sub (Rel.frz (s:=71) (fun _ h=>h) rfl rfl) ?_
   cases hm2:matchP (L.set k [x])with
   |none=>
    rw[hm2]at hsp2 hR3
    dsimp only at hsp2
    have hx2:(pre++[x]).filter (fun x=>(matchR (L.set k [x])).2)=pre.filter fun x=>(matchR (L.set k [x])).2:=by
     rw[List.filter_append,List.filter_cons_of_neg (by rw[hR3];simp)];simp
    rw[hx2]at ih2
    refine J.co (qs:=[]) (cs2:=[]) false [] [] rfl rfl rfl rfl rfl rfl hsp2 trivial rfl rfl rfl rfl rfl rfl rfl fun ns hns=> ?_
    obtain rfl:ns=[]:=List.eq_nil_of_length_eq_zero hns
    repeat(refine .A ?_;conv=>whnf)
    refine T.cf rfl ?_
    repeat(refine .A ?_;conv=>whnf)
    rw[hwn]
    exact T.K ih2
   |some b2=>
    rw[hm2]at hsp2 hR3
    dsimp only at hsp2
    have hx2:(pre++[x]).filter (fun x=>(matchR (L.set k [x])).2)=pre.filter (fun x=>(matchR (L.set k [x])).2)++[x]:=by
     rw[List.filter_append,List.filter_cons_of_pos (by rw[hR3];simp)];simp
    rw[hx2]at ih2
    refine J.co (qs:=[]) (cs2:=[]) false [] [1003,1004] rfl rfl rfl rfl rfl rfl hsp2 trivial rfl rfl rfl rfl rfl rfl rfl fun ns hns=> ?_
    obtain⟨pm2,pb2,rfl⟩: ∃pm2 pb2,ns=[pm2,pb2]:=by
     match ns,hns with
     | [a,b],_=>exact⟨a,b,rfl⟩
    repeat(refine .A ?_;conv=>whnf)
    refine T.ct rfl ?_
    repeat(refine .A ?_;conv=>whnf)
    refine .V ?_
    repeat(refine .A ?_;conv=>whnf)
    refine J.aI rfl rfl rfl rfl rfl rfl rfl rfl rfl rfl rfl rfl rfl rfl rfl rfl rfl rfl rfl (by omega) ?_
    repeat(refine .A ?_;conv=>whnf)
    rw[hwn]
    exact T.K ih2
  ·rw[←hlf]
   repeat(refine .A ?_;conv=>whnf)
   refine T.cf2 rfl lt_end ?_
   repeat(refine .A ?_;conv=>whnf)
   refine .C (domOf_spec (leftU L k) (by omega)).frz ?_
   repeat(refine .A ?_;conv=>whnf)
   refine J.io rfl rfl rfl rfl rfl rfl rfl rfl rfl hvk.1 (by rw[List.length_map,hol];exact hvk.2) rfl ?_
   repeat(refine .A ?_;conv=>whnf)
   refine J.w1 rfl rfl rfl rfl rfl rfl rfl rfl rfl rfl rfl (z:=(domOfP (leftU L k)).1) (fun _=>rfl) (by rw[hol];exact hvk.2) ?_
   repeat(refine .A ?_;conv=>whnf)
   rw[hw1]
   exact T.K (ih (k+1,out.set v.toNat (domOfP (leftU L k)).1) ⟨by omega,by rw[List.length_set];exact hol,hst⟩ (by show _-_<_-_;omega))
structure ValD (d:Doms):Prop where
 small:d.length*24≤140737488355328
 inb: ∀x∈d,InB x
 len: ∀x∈d,x.length*16≤140737488351232
 vals: ∀x∈d,(vals x).length≤4097
theorem ValD.dom {d:Doms}(h:ValD d){v:Int}(hv:v.toNat<d.length):domAt d v∈d:=by
 unfold domAt
 rw[List.getD_eq_getElem?_getD,List.getElem?_eq_getElem hv];exact List.getElem_mem hv
theorem dom_row {d:Doms}{v:Int}(hv:v.toNat<d.length):(d.map cD)[v.toNat]? =some (cD (domAt d v)):=by simp[domAt,hv]
def extP (d:Doms)(vars:List Int):Nat→List Int→Bool
 |0,_=>true
 |n+1,had=>(vals (domAt d (vars.getD had.length 0))).any fun x=> !decide (x∈had)&&extP d vars n (had++[x])
theorem ext_spec (d:Doms)(vars:List Int)(hd:ValD d)(hv: ∀v∈vars,0≤v∧v.toNat<d.length)(hl:vars.length*8≤140737488355328): ∀(n:Nat) (had:List Int),n+had.length=vars.length→
  Spec Tryz.prog 134 false [doms d,ints vars,ints had] [.val (.bool (extP d vars n had))]:=by
 intro n
 induction n with
 |zero=>
  intro had hn
  refine Spec.body Tryz.func134 rfl rfl rfl fun w0 Z0=> ?_
  repeat(refine .A ?_;conv=>whnf)
  refine T.cd rfl (fun h=> ?_) (fun h=> ?_)
  ·repeat(refine .A ?_;conv=>whnf)
   exact⟨_,.v rfl rfl rfl (fun _=>rfl) .nil⟩
  ·simp only[List.length_map]at h;omega
 |succ n ihn=>
  intro had hn
  refine Spec.body Tryz.func134 rfl rfl rfl fun w0 Z0=> ?_
  have hvm:vars[had.length]'(by omega)∈vars:=List.getElem_mem _
  have hvr:(vars.map cI)[(((had.map cI).length:Nat):Int).toNat]? =some (cI (vars.getD had.length 0)):=by
   rw[List.length_map]
   have:had.length<vars.length:=by omega
   simp[this]
  have hvd:vars.getD had.length 0∈vars:=by
   rw[List.getD_eq_getElem?_getD,List.getElem?_eq_getElem (by omega)];exact hvm
  have hva:=hv _ hvd
  have hdm:=hd.dom hva.2
  have hvs:=(values_spec (domAt d (vars.getD had.length 0)) (hd.inb _ hdm) (by have:=hd.vals _ hdm;omega) (by have:=hd.len _ hdm;omega)).frz
  have hvl:=hd.vals _ hdm
  rw[extP]
  generalize vars.getD had.length 0=v at*
  repeat(refine .A ?_;conv=>whnf)
  refine T.cd rfl (fun h=> ?_) (fun h=> ?_)
  ·simp only[List.length_map]at h;omega
  repeat(refine .A ?_;conv=>whnf)
  refine .I (r:=cI v) hvr ?_
  repeat(refine .A ?_;conv=>whnf)
  refine J.i rfl rfl rfl rfl rfl rfl rfl rfl rfl (r:=cD (domAt d v)) hva.1 (dom_row hva.2) rfl ?_
  repeat(refine .A ?_;conv=>whnf)
  refine .C hvs ?_
  repeat(refine .A ?_;conv=>whnf)
  generalize vals (domAt d v)=l at*
  refine T.K (T.listI l (fun pre=>(pre.any fun x=> !decide (x∈had)&&extP d vars n (had++[x]))=false) (fun k pre post=>⟨[(0,.val false (doms d)),(1,.val false (ints vars)),(2,.val false (ints had)),(7,.val true (ints l)),(8,.val true (.int .i64 k))],[],0⟩) (fun _ _ h=>h) rfl ?_ ?_)
  ·rintro k pre x post h hk hi ih
   have hlt:=at_lt h hk
   have hhs:=has_spec had x (by omega)
   repeat(refine .A ?_;conv=>whnf)
   refine T.ct2 rfl (lt_at h hk) ?_
   repeat(refine .A ?_;conv=>whnf)
   refine .O ?_
   repeat(refine .A ?_;conv=>whnf)
   refine J.a rfl rfl rfl rfl rfl rfl rfl rfl rfl rfl rfl rfl rfl rfl rfl rfl rfl len_I (by show(0+List.length _)*8≤_;simp;omega) ?_
   repeat(refine .A ?_;conv=>whnf)
   refine .I (r:=cI x) (row_at h hk) ?_
   repeat(refine .A ?_;conv=>whnf)
   refine .V ?_
   repeat(refine .A ?_;conv=>whnf)
   refine J.aI (l:=had) (x:=x) rfl rfl rfl rfl rfl rfl rfl rfl rfl rfl rfl rfl rfl rfl rfl rfl rfl rfl rfl (by omega) ?_
   repeat(refine .A ?_;conv=>whnf)
   refine .I (r:=cI x) (row_at h hk) ?_
   repeat(refine .A ?_;conv=>whnf)
   refine .C hhs ?_
   by_cases hm:x∈had
   ·rw[decide_eq_true hm]
    repeat(refine .A ?_;conv=>whnf)
    refine T.cf rfl ?_
    repeat(refine .A ?_;conv=>whnf)
    rw[wrap1 hlt (by omega)]
    exact T.K (ih (by rw[List.any_append,hi];simp[hm]))
   ·rw[decide_eq_false hm]
    repeat(refine .A ?_;conv=>whnf)
    refine .C (ihn (had++[x]) (by simp;omega)) ?_
    repeat(refine .A ?_;conv=>whnf)
    cases he:extP d vars n (had++[x])with
    |true=>
     refine T.ct rfl ?_
     repeat(refine .A ?_;conv=>whnf)
     refine⟨_,.v rfl rfl ?_ (fun _=>rfl) .nil⟩
     rw[h]
     simp[hm,he]
    |false=>
     refine T.cf rfl ?_
     repeat(refine .A ?_;conv=>whnf)
     rw[wrap1 hlt (by omega)]
     exact T.K (ih (by rw[List.any_append,hi];simp[hm,he]))
  ·intro hi
   rw[hi]
   repeat(refine .A ?_;conv=>whnf)
   refine T.cf2 rfl lt_end ?_
   repeat(refine .A ?_;conv=>whnf)
   exact⟨_,.v rfl rfl rfl (fun _=>rfl) .nil⟩
theorem oth_spec (d:Doms)(vars:List Int)(hd:ValD d)(hv: ∀v∈vars,0≤v∧v.toNat<d.length)(hl:vars.length*8≤140737488355328):
  Spec Tryz.prog 89 false [doms d,ints vars] [.val (.bool (extP d vars vars.length []))]:=by
 refine Spec.body Tryz.func89 rfl rfl rfl fun w0 Z0=> ?_
 repeat(refine .A ?_;conv=>whnf)
 refine .O ?_
 refine .C (ext_spec d vars hd hv hl vars.length [] rfl) ?_
 repeat(refine .A ?_;conv=>whnf)
 exact⟨_,.v rfl rfl rfl (fun _=>rfl) .nil⟩
def left8 (d:Doms)(vars:List Int)(v:Int):List Int:=(vals (domAt d v)).filter fun x=>extP (d.set v.toNat [(x,x)]) vars vars.length []
def step8 (d:Doms)(vars:List Int):List Int→Doms→Doms
 | [],out=>out
 |v::vs,out=>step8 d vars vs (out.set v.toNat (pack (left8 d vars v)))
def prune8 (d:Doms)(vars:List Int):Option Doms:=if []∈d then none else if []∈step8 d vars vars d then none else some (step8 d vars vars d)
theorem ValD.one {d:Doms}(h:ValD d)(i:Nat){x:Int}(hx: -1048576≤x∧x≤1048576):ValD (d.set i [(x,x)]):=by
 have key: ∀y∈d.set i [(x,x)],y∈d∨y=[(x,x)]:=fun y hy=>List.mem_or_eq_of_mem_set hy
 refine⟨by rw[List.length_set];exact h.small,fun y hy=> ?_,fun y hy=> ?_,fun y hy=> ?_⟩
 ·rcases key y hy with hy|rfl
  ·exact h.inb y hy
  ·intro r hr
   obtain rfl:=List.mem_singleton.1 hr
   exact⟨hx.1,hx.2,hx.1,hx.2⟩
 ·rcases key y hy with hy|rfl
  ·exact h.len y hy
  ·simp
 ·rcases key y hy with hy|rfl
  ·exact h.vals y hy
  ·have:Go.Proofs.YtlcobmehnaeebaaGreat.vals [(x,x)]=[x]:=by
    show rng x x++[]=_
    rw[rng_self];rfl
   rw[this];simp
theorem prune8_spec (d:Doms)(c:Con)(hd:ValD d)(hv: ∀v∈c.vars,0≤v∧v.toNat<d.length)(hl:c.vars.length*8≤140737488355328):
  Spec Tryz.prog 37 false [doms d,.agg (cC c)] [.val (doms ((prune8 d c.vars).getD [])),.val (.bool (prune8 d c.vars).isSome)]:=by
 refine Spec.body Tryz.func37 rfl rfl rfl fun w0 Z0=> ?_
 have hds:=hd.small
 have hls:=lists_spec d hd.small (fun x hx=>by have:=hd.len x hx;omega)
 repeat(refine .A ?_;conv=>whnf)
 refine .C (empty_spec d (by omega)) ?_
 repeat(refine .A ?_;conv=>whnf)
 generalize hR:prune8 d c.vars=R
 unfold prune8 at hR
 refine T.cond rfl (fun he=> ?_) (fun he=> ?_)
 ·have he: []∈d:=by simpa using he
  rw[if_pos he]at hR
  subst hR
  repeat(refine .A ?_;conv=>whnf)
  exact⟨_,.v rfl rfl rfl (fun _=>rfl) (.v rfl rfl rfl (fun _=>rfl) .nil)⟩
 have he: []∉d:=by simpa using he
 rw[if_neg he]at hR
 repeat(refine .A ?_;conv=>whnf)
 refine .C hls ?_
 repeat(refine .A ?_;conv=>whnf)
 refine T.K (T.ind (fun x:Nat×Doms=>⟨[(0,.val false (doms d)),(3,.optr 0 0 0 0),(6,.ref 1),(7,.val true (.int .i64 x.1))],[(0,some (.box false (cC c))),(1,some (.sl 45 1 true (x.2.map cD)))],2⟩)
  (fun x=>x.1≤c.vars.length∧x.2.length=d.length∧step8 d c.vars (c.vars.drop x.1) x.2=step8 d c.vars c.vars d) (fun x=>c.vars.length-x.1) (0,d) ⟨by simp,rfl,rfl⟩ (fun _ _ h=>h) ?_)
 rintro⟨k,out⟩ ⟨hk,hol,hst⟩ ih
 simp only at hk hol hst
 dsimp only
 repeat(refine .A ?_;conv=>whnf)
 refine T.cd rfl (fun h1=> ?_) (fun h1=> ?_)
 rotate_left
 ·have h1:k=c.vars.length:=by simp at h1;omega
  subst h1
  rw[List.drop_length,step8]at hst
  subst hst
  have hto:=told_spec (step8 d c.vars c.vars d) (by rw[hol];omega)
  generalize step8 d c.vars c.vars d=out at*
  repeat(refine .A ?_;conv=>whnf)
  refine J.sub (Rel.frz (s:=78) (fun _ h=>h) rfl rfl) ?_
  refine J.ct rfl rfl rfl rfl rfl hto rfl rfl ?_
  repeat(refine .A ?_;conv=>whnf)
  subst hR
  by_cases hn: []∈out
  ·rw[if_pos hn,if_pos hn,decide_eq_true hn]
   exact⟨_,.v rfl rfl rfl (fun _=>rfl) (.v rfl rfl rfl (fun _=>rfl) .nil)⟩
  ·rw[if_neg hn,if_neg hn,decide_eq_false hn]
   exact⟨_,.v rfl rfl rfl (fun _=>rfl) (.v rfl rfl rfl (fun _=>rfl) .nil)⟩
 have h1:k<c.vars.length:=by simpa using h1
 rw[List.drop_eq_getElem_cons h1,step8]at hst
 have hvk:=hv _ (List.getElem_mem h1)
 have hvr:(c.vars.map cI)[((k:Nat):Int).toNat]? =some (cI c.vars[k]):=row_i h1
 have hw1:IntKind.i64.wrap ((k:Int)+1)=((k+1:Nat):Int):=wrap1 (l:=c.vars.length) h1 (by omega)
 generalize c.vars[k]=v at*
 have hdm:=hd.dom hvk.2
 have hvs:=(values_spec (domAt d v) (hd.inb _ hdm) (by have:=hd.vals _ hdm;omega) (by have:=hd.len _ hdm;omega)).frz
 have hvl:=hd.vals _ hdm
 have hvi:=vals_in (hd.inb _ hdm)
 have hl8:left8 d c.vars v=(vals (domAt d v)).filter fun x=>extP (d.set v.toNat [(x,x)]) c.vars c.vars.length []:=rfl
 repeat(refine .A ?_;conv=>whnf)
 refine .I (r:=cI v) hvr ?_
 repeat(refine .A ?_;conv=>whnf)
 refine J.i rfl rfl rfl rfl rfl rfl rfl rfl rfl (r:=cD (domAt d v)) hvk.1 (dom_row hvk.2) rfl ?_
 repeat(refine .A ?_;conv=>whnf)
 refine .C hvs ?_
 refine .O ?_
 repeat(refine .A ?_;conv=>whnf)
 generalize vals (domAt d v)=l at*
 have hll:(left8 d c.vars v).length≤l.length:=by rw[hl8];exact List.length_filter_le ..
 refine T.K (T.list l (fun n pre post=>⟨[(0,.val false (doms d)),(3,.optr 0 0 0 0),(6,.ref 1),(7,.val true (.int .i64 k)),(8,.val true (ints l)),(9,.ref 2),(10,.val true (.int .i64 n))],
   [(0,some (.box false (cC c))),(1,some (.sl 45 1 true (out.map cD))),(2,some (.sl 3 1 true ((pre.filter fun x=>extP (d.set v.toNat [(x,x)]) c.vars c.vars.length []).map cI)))],3⟩) (fun _ _ h=>h) ?_ ?_)
 ·rintro n pre x post h hn ih2
  have hlt:=at_lt h hn
  have hfl:(pre.filter fun x=>extP (d.set v.toNat [(x,x)]) c.vars c.vars.length []).length≤pre.length:=List.length_filter_le ..
  have hwn:IntKind.i64.wrap ((n:Int)+1)=((n+1:Nat):Int):=wrap1 hlt (by omega)
  have hxi:=hvi x (by rw[h];simp)
  have hos:=oth_spec (d.set v.toNat [(x,x)]) c.vars (hd.one v.toNat hxi) (fun u hu=>by rw[List.length_set];exact hv u hu) hl
  repeat(refine .A ?_;conv=>whnf)
  refine T.ct2 rfl (lt_at h hn) ?_
  repeat(refine .A ?_;conv=>whnf)
  refine .C hls ?_
  repeat(refine .A ?_;conv=>whnf)
  refine T.rdm 16 rfl (by kernel_rfl) rfl ?_
  repeat(refine .N ?_;conv=>whnf)
  refine .I (r:=cI v) hvr ?_
  repeat(refine .N ?_;conv=>whnf)
  refine .I (r:=cI x) (row_at h hn) ?_
  repeat(refine .N ?_;conv=>whnf)
  refine .I (r:=cI x) (row_at h hn) ?_
  repeat(refine .N ?_;conv=>whnf)
  refine .V ?_
  repeat(refine .N ?_;conv=>whnf)
  refine J.io rfl rfl rfl rfl rfl rfl rfl rfl rfl hvk.1 (by rw[List.length_map];exact hvk.2) rfl ?_
  repeat(refine .N ?_;conv=>whnf)
  refine J.w1 rfl rfl rfl rfl rfl rfl rfl rfl rfl rfl rfl (z:=[(x,x)]) (fun _=>rfl) hvk.2 ?_
  repeat(refine .A ?_;conv=>whnf)
  refine .C hos ?_
  repeat(refine .A ?_;conv=>whnf)
  cases he2:extP (d.set v.toNat [(x,x)]) c.vars c.vars.length []with
  |false=>
   rw[List.filter_append,List.filter_cons_of_neg (by simp[he2]),List.filter_nil,List.append_nil]at ih2
   refine T.cf rfl ?_
   repeat(refine .A ?_;conv=>whnf)
   rw[hwn]
   exact T.K ih2
  |true=>
   rw[List.filter_append,List.filter_cons_of_pos (by simp[he2]),List.filter_nil]at ih2
   refine T.ct rfl ?_
   repeat(refine .A ?_;conv=>whnf)
   refine .I (r:=cI x) (row_at h hn) ?_
   repeat(refine .A ?_;conv=>whnf)
   refine .V ?_
   repeat(refine .A ?_;conv=>whnf)
   refine J.aI rfl rfl rfl rfl rfl rfl rfl rfl rfl rfl rfl rfl rfl rfl rfl rfl rfl rfl rfl (by omega) ?_
   repeat(refine .A ?_;conv=>whnf)
   rw[hwn]
   exact T.K ih2
 ·rw[←hl8]
  have hpk:=(pack_spec (left8 d c.vars v) (fun x hx=>by
   rw[hl8]at hx
   have:=hvi x (List.mem_filter.1 hx).1
   omega) (by omega)).frz
  repeat(refine .A ?_;conv=>whnf)
  refine T.cf2 rfl lt_end ?_
  repeat(refine .A ?_;conv=>whnf)
  refine T.rdm 8 rfl (by kernel_rfl) rfl ?_
  repeat(refine .N ?_;conv=>whnf)
  refine .I (r:=cI v) hvr ?_
  repeat(refine .N ?_;conv=>whnf)
  refine .C hpk ?_
  repeat(refine .N ?_;conv=>whnf)
  refine J.io rfl rfl rfl rfl rfl rfl rfl rfl rfl hvk.1 (by rw[List.length_map,hol];exact hvk.2) rfl ?_
  repeat(refine .N ?_;conv=>whnf)
  refine J.w1 rfl rfl rfl rfl rfl rfl rfl rfl rfl rfl rfl (z:=pack (left8 d c.vars v)) (fun _=>rfl) (by rw[hol];exact hvk.2) ?_
  repeat(refine .A ?_;conv=>whnf)
  rw[hw1]
  exact T.K (ih (k+1,out.set v.toNat (pack (left8 d c.vars v))) ⟨by omega,by rw[List.length_set];exact hol,hst⟩ (by show _-_<_-_;omega))
def conU (vars:List Int):Con:=⟨1,vars,[],0,0,[],0⟩
theorem packG_pack {l:List Int}(h:Up l):packG l=pack l:=by
 have key: ∀(l:List Int) (o:List (Int×Int)) (lo x:Int),Up (x::l)→l.foldl packS (o++[(lo,x)])=o++packF lo x l:=by
  intro l
  induction l with
  |nil=>intro o lo x _;rfl
  |cons y l ih=>
   intro o lo x hu
   have h1:=List.pairwise_cons.1 hu
   have hxy:=h1.1 y (.head _)
   rw[List.foldl_cons,packS_snoc,if_neg (by omega),packF]
   by_cases e:y=x+1
   ·rw[if_pos (by omega),if_pos e,ih _ _ _ h1.2]
   ·rw[if_neg (by omega),if_neg e,ih _ _ _ h1.2,List.append_assoc];rfl
 cases l with
 |nil=>rfl
 |cons x l=>
  show l.foldl packS (packS [] x)=_
  rw[packS_nil]
  exact key l [] x x h
theorem sortI_up {l:List Int}(h:Up l):sortI l=l:=List.mergeSort_of_pairwise (h.imp fun h=>by simp;omega)
theorem sizeU_eq {d:List (Int×Int)}(h:Fine d):sizeW d=((vals d).length:Nat):=by
 have hb:=h.domB.1
 have hf:=h.few
 have hok:=h.ok
 have key: ∀(d:List (Int×Int)) (n:Nat),InB d→(∀r∈d,r.1≤r.2)→n+(vals d).length≤1000000000000000→d.foldl (fun n r=>wr (n+wr (wr (r.2-r.1)+1))) (n:Int)=((n+(vals d).length:Nat):Int):=by
  intro d
  induction d with
  |nil=>intro n _ _ _;simp[vals]
  |cons r d ih=>
   intro n hb ho hl
   have h1:=hb r (.head _)
   have h2:=ho r (.head _)
   rw[vals_cons,List.length_append,show(rng r.1 r.2).length=(r.2+1-r.1).toNat by simp[rng]]at hl⊢
   rw[List.foldl_cons]
   have e:wr ((n:Int)+wr (wr (r.2-r.1)+1))=((n+(r.2+1-r.1).toNat:Nat):Int):=by
    simp only[wr]
    rw[wrap_id (n:=r.2-r.1) (by omega) (by omega),wrap_id (n:=r.2-r.1+1) (by omega) (by omega),wrap_id (by omega) (by omega)]
    omega
   rw[e,ih _ (fun r hr=>hb r (.tail _ hr)) (fun r hr=>ho r (.tail _ hr)) (by omega)]
   congr 1
   omega
 have:=key d 0 hb hok.1 (by omega)
 simpa[sizeW]using this
theorem packU_fine {l:List Int}(h:Up l)(hv: ∀v∈l,-1048576≤v∧v≤1048576)(hn:l.length≤4096):Fine (pack l):=by
 refine⟨pack_ok h,?_,?_⟩
 ·rw[vals_pack h];exact hv
 ·rw[vals_pack h];omega
theorem domOfP_up {l:List Int}(h:Up l)(hv: ∀v∈l,-1048576≤v∧v≤1048576)(hn:l.length≤4096):domOfP l=(pack l,0):=by
 unfold domOfP
 rw[sortI_up h,packG_pack h,sizeU_eq (packU_fine h hv hn),vals_pack h,if_pos (List.all_eq_true.2 fun v hm=>by simpa[valueB]using hv v hm),if_neg (by omega)]
structure FewD (d:Doms):Prop where
 small:d.length*24≤140737488355328
 fine: ∀x∈d,Fine x
 few: ∀x∈d,(vals x).length≤4096
theorem FewD.valD {d:Doms}(h:FewD d):ValD d:=⟨h.small,fun x hx=>(h.fine x hx).domB.1,fun x hx=>by have:=(h.fine x hx).len;omega,fun x hx=>by have:=h.few x hx;omega⟩
theorem valsT_eq {x:List (Int×Int)}(h:(vals x).length≤4096):valsT x=vals x:=List.take_of_length_le (by omega)
theorem FewD.at {d:Doms}(h:FewD d)(v:Int):(vals (domAt d v)).length≤4096∧Up (vals (domAt d v))∧∀x∈vals (domAt d v),-1048576≤x∧x≤1048576:=by
 unfold domAt
 by_cases hv:v.toNat<d.length
 ·rw[List.getD_eq_getElem?_getD,List.getElem?_eq_getElem hv]
  have hm:d[v.toNat]∈d:=List.getElem_mem hv
  exact⟨h.few _ hm,vals_up (h.fine _ hm).ok,(h.fine _ hm).val⟩
 ·rw[List.getD_eq_getElem?_getD,List.getElem?_eq_none (by omega)]
  exact⟨by simp[vals],.nil,fun x hx=>by cases hx⟩
theorem listsP_eq {d:Doms}(h:FewD d)(vs:List Int):listsP d vs=vs.map fun v=>vals (domAt d v):=
 List.map_congr_left fun v _=>valsT_eq (h.at v).1
theorem extP_iff (d:Doms)(vars:List Int): ∀(n:Nat) (had:List Int),had.Nodup→(extP d vars n had=true↔∃rest:List Int,rest.length=n∧(∀k,k<n→rest.getD k 0∈vals (domAt d (vars.getD (had.length+k) 0)))∧(had++rest).Nodup)
 |0,had,hn=>by
  rw[extP]
  exact⟨fun _=>⟨[],rfl,fun k hk=>by omega,by simpa using hn⟩,fun _=>rfl⟩
 |n+1,had,hn=>by
  rw[extP,List.any_eq_true]
  constructor
  ·rintro⟨x,hx,h⟩
   simp only[Bool.and_eq_true,Bool.not_eq_true',decide_eq_false_iff_not]at h
   have hn2:(had++[x]).Nodup:=List.nodup_append.2 ⟨hn,by simp,fun a ha b hb=>by
    obtain rfl:=List.mem_singleton.1 hb
    exact fun e=>h.1 (e▸ha)⟩
   obtain⟨rest,h1,h2,h3⟩:=(extP_iff d vars n (had++[x]) hn2).1 h.2
   refine⟨x::rest,by simp[h1],fun k hk=> ?_,by simpa using h3⟩
   cases k with
   |zero=>exact hx
   |succ k=>
    have:=h2 k (by omega)
    rw[List.length_append,show had.length+ [x].length+k=had.length+(k+1)by simp;omega]at this
    exact this
  ·rintro⟨rest,h1,h2,h3⟩
   cases rest with
   |nil=>cases h1
   |cons x rest=>
    have hx:x∉had:=fun hm=>by
     have:=(List.nodup_append.1 h3).2.2 x hm x (.head _)
     exact this rfl
    have h4:((had++[x])++rest).Nodup:=by simpa using h3
    refine⟨x,h2 0 (by omega),?_⟩
    simp only[Bool.and_eq_true,Bool.not_eq_true',decide_eq_false_iff_not]
    refine⟨hx,(extP_iff d vars n (had++[x]) (List.nodup_append.1 h4).1).2 ⟨rest,by simpa using h1,fun k hk=> ?_,h4⟩⟩
    have:=h2 (k+1) (by omega)
    rw[List.length_append,show had.length+ [x].length+k=had.length+(k+1)by simp;omega]
    exact this
theorem oth_eq {d:Doms}(h:FewD d)(vars:List Int):extP d vars vars.length []=(matchR (listsP d vars)).2:=by
 have key:extP d vars vars.length []=true↔∃g,Others (listsP d vars) g:=by
  rw[extP_iff d vars vars.length [] .nil,listsP_eq h]
  have hg: ∀j,j<vars.length→(vars.map fun v=>vals (domAt d v)).getD j []=vals (domAt d (vars.getD j 0)):=fun j hj=>by simp[hj]
  constructor
  ·rintro⟨rest,h1,h2,h3⟩
   rw[List.nil_append]at h3
   refine⟨fun j=>rest.getD j 0,fun j hj=> ?_,fun j k hj hk e=> ?_⟩
   ·rw[List.length_map]at hj
    rw[hg j hj]
    have:=h2 j hj
    simpa using this
   ·rw[List.length_map]at hj hk
    have e:rest.getD j 0=rest.getD k 0:=e
    rw[List.getD_eq_getElem?_getD,List.getD_eq_getElem?_getD,List.getElem?_eq_getElem (by omega),List.getElem?_eq_getElem (by omega)]at e
    exact(List.getElem_inj h3).1 e
  ·rintro⟨g,h1,h2⟩
   rw[List.length_map]at h1 h2
   refine⟨(List.range vars.length).map g,by simp,fun k hk=> ?_,?_⟩
   ·have:=h1 k hk
    rw[hg k hk]at this
    simpa[hk]using this
   ·rw[List.nil_append]
    exact nodup_map List.nodup_range fun x hx y hy e=>h2 x y (List.mem_range.1 hx) (List.mem_range.1 hy) e
 rw[Bool.eq_iff_iff,key,matchR_iff]
theorem FewD.one {d:Doms}(h:FewD d)(i:Nat){x:Int}(hx: -1048576≤x∧x≤1048576):FewD (d.set i [(x,x)]):=by
 have key: ∀y∈d.set i [(x,x)],y∈d∨y=[(x,x)]:=fun y hy=>List.mem_or_eq_of_mem_set hy
 have hv:vals [(x,x)]=[x]:=by
  show rng x x++[]=_
  rw[rng_self];rfl
 refine⟨by rw[List.length_set];exact h.small,fun y hy=> ?_,fun y hy=> ?_⟩
 ·rcases key y hy with hy|rfl
  ·exact h.fine y hy
  ·refine⟨⟨fun r hr=> ?_,by simp⟩,?_,?_⟩
   ·obtain rfl:=List.mem_singleton.1 hr
    exact Int.le_refl _
   ·rw[hv];intro v hm;obtain rfl:=List.mem_singleton.1 hm;exact hx
   ·rw[hv];simp
 ·rcases key y hy with hy|rfl
  ·exact h.few y hy
  ·rw[hv];simp
theorem Up.filter {l:List Int}(h:Up l)(p:Int→Bool):Up (l.filter p):=List.Pairwise.filter p h
def VarsU (d:Doms)(vars:List Int):Prop:=vars.Nodup∧∀v∈vars,0≤v∧v.toNat<d.length
theorem listsP_set {d:Doms}(h:FewD d){vars:List Int}(hv:VarsU d vars){i:Nat}(hi:i<vars.length){x:Int}(hx: -1048576≤x∧x≤1048576):listsP (d.set vars[i].toNat [(x,x)]) vars=(listsP d vars).set i [x]:=by
 rw[listsP_eq h,listsP_eq (h.one _ hx)]
 apply List.ext_getElem (by simp)
 intro j h1 h2
 have hj:j<vars.length:=by simpa using h1
 rw[List.getElem_map,List.getElem_set,List.getElem_map]
 unfold domAt
 rw[List.getD_eq_getElem?_getD,List.getElem?_set]
 by_cases e:i=j
 ·subst e
  rw[if_pos rfl,if_pos rfl,if_pos (hv.2 _ (List.getElem_mem hi)).2]
  show rng x x++[]=_
  rw[rng_self];rfl
 ·have e2: ¬vars[i].toNat=vars[j].toNat:=fun e2=>by
   have h3:=(hv.2 _ (List.getElem_mem hi)).1
   have h4:=(hv.2 _ (List.getElem_mem hj)).1
   exact e ((List.getElem_inj hv.1).1 (by omega:vars[i]=vars[j]))
  rw[if_neg e,if_neg e2,←List.getD_eq_getElem?_getD]
theorem left_eq {d:Doms}(h:FewD d){vars:List Int}(hv:VarsU d vars){i:Nat}(hi:i<vars.length):leftU (listsP d vars) i=left8 d vars vars[i]:=by
 unfold leftU left8
 have e:(listsP d vars).getD i []=vals (domAt d vars[i]):=by rw[listsP_eq h];simp[hi]
 rw[e]
 refine List.filter_congr fun x hx=> ?_
 have hxr:=(h.at vars[i]).2.2 x hx
 rw[←listsP_set h hv hi hxr,oth_eq (h.one _ hxr)]
theorem left8_up {d:Doms}(h:FewD d)(vars:List Int)(v:Int):Up (left8 d vars v)∧(left8 d vars v).length≤4096∧(∀x∈left8 d vars v,-1048576≤x∧x≤1048576):=by
 obtain⟨h1,h2,h3⟩:=h.at v
 exact⟨h2.filter _,Nat.le_trans (List.length_filter_le ..) h1,fun x hx=>h3 x (List.mem_filter.1 hx).1⟩
theorem step_eq {d:Doms}(h:FewD d){vars:List Int}(hv:VarsU d vars): ∀(n i:Nat) (out:Doms),n+i=vars.length→stepU (listsP d vars) (vars.drop i) i out=step8 d vars (vars.drop i) out
 |0,i,out,hi=>by
  rw[List.drop_of_length_le (by omega)];rfl
 |n+1,i,out,hi=>by
  have hil:i<vars.length:=by omega
  rw[List.drop_eq_getElem_cons hil,stepU,step8,left_eq h hv hil]
  obtain⟨h1,h2,h3⟩:=left8_up h vars vars[i]
  rw[domOfP_up h1 h3 h2]
  exact step_eq h hv n (i+1) _ (by omega)
theorem step8_len (d:Doms)(vars:List Int): ∀(vs:List Int) (out:Doms),(step8 d vars vs out).length=out.length
 | [],out=>rfl
 |v::vs,out=>by rw[step8,step8_len d vars vs,List.length_set]
theorem step8_at {d:Doms}{vars:List Int}: ∀{vs:List Int} {out:Doms} (j:Nat),vs.Nodup→(∀v∈vs,0≤v∧v.toNat<out.length)→(step8 d vars vs out)[j]? =if(j:Int)∈vs then some (pack (left8 d vars j))else out[j]?
 | [],out,j,_,_=>by simp[step8]
 |v::vs,out,j,hn,hv=>by
  obtain⟨h1,h2⟩:=List.nodup_cons.1 hn
  have hv0:=hv v (.head _)
  rw[step8,step8_at j h2 (fun u hu=>by rw[List.length_set];exact hv u (.tail _ hu)),List.getElem?_set]
  by_cases e:v.toNat=j
  ·have e2:v=(j:Int):=by omega
   subst e2
   rw[if_neg h1,if_pos (List.mem_cons_self ..),if_pos e,if_pos hv0.2]
  ·by_cases hm:(j:Int)∈vs
   ·rw[if_pos hm,if_pos (.tail _ hm)]
   ·have hn2: ¬(j:Int)∈v::vs:=fun h=>by
     rcases List.mem_cons.1 h with h|h
     ·exact e (by omega)
     ·exact hm h
    rw[if_neg hm,if_neg hn2,if_neg e]
theorem left8_mem {d:Doms}(h:FewD d){vars:List Int}(hv:VarsU d vars){i:Nat}(hi:i<vars.length)(x:Int):x∈left8 d vars vars[i]↔∃g,Others (listsP d vars) g∧g i=x:=by
 have hL:(listsP d vars).getD i []=vals (domAt d vars[i]):=by rw[listsP_eq h];simp[hi]
 have hlen:(listsP d vars).length=vars.length:=List.length_map ..
 unfold left8
 rw[List.mem_filter]
 constructor
 ·rintro⟨hx,he⟩
  have hxr:=(h.at vars[i]).2.2 x hx
  rw[oth_eq (h.one _ hxr),matchR_iff,listsP_set h hv hi hxr]at he
  obtain⟨g,h1,h2⟩:=he
  rw[List.length_set]at h1 h2
  have hgi:g i=x:=by
   have:=h1 i (by omega)
   rw[List.getD_eq_getElem?_getD,List.getElem?_set,if_pos rfl,if_pos (by omega)]at this
   simpa using this
  refine⟨g,⟨fun j hj=> ?_,h2⟩,hgi⟩
  by_cases e:j=i
  ·subst e;rw[hL,hgi];exact hx
  ·have:=h1 j hj
   rw[List.getD_eq_getElem?_getD,List.getElem?_set,if_neg (Ne.symm e),←List.getD_eq_getElem?_getD]at this
   exact this
 ·rintro⟨g,⟨h1,h2⟩,rfl⟩
  have hx:=h1 i (by omega)
  rw[hL]at hx
  have hxr:=(h.at vars[i]).2.2 _ hx
  refine⟨hx,?_⟩
  rw[oth_eq (h.one _ hxr),matchR_iff,listsP_set h hv hi hxr]
  refine⟨g,fun j hj=> ?_,fun j k hj hk=> ?_⟩
  ·rw[List.length_set]at hj
   rw[List.getD_eq_getElem?_getD,List.getElem?_set]
   by_cases e:i=j
   ·subst e;rw[if_pos rfl,if_pos hj];simp
   ·rw[if_neg e,←List.getD_eq_getElem?_getD];exact h1 j hj
  ·rw[List.length_set]at hj hk
   exact h2 j k hj hk
theorem pack_ne {l:List Int}(h:l≠[]):pack l≠[]:=by
 cases l with
 |nil=>exact absurd rfl h
 |cons x l=>
  have: ∀(l:List Int) (lo x:Int),packF lo x l≠[]:=by
   intro l
   induction l with
   |nil=>intro lo x;simp[packF]
   |cons y l ih=>intro lo x;rw[packF];split;exact ih _ _;simp
  exact this l x x
theorem prune_eq {d:Doms}(h:FewD d){vars:List Int}(hv:VarsU d vars)(hne:vars≠[]):pruneU d vars=prune8 d vars:=by
 unfold pruneU prune8
 by_cases he: []∈d
 ·rw[if_pos he,if_pos he]
 rw[if_neg he,if_neg he]
 have hst:=step_eq h hv vars.length 0 d (by omega)
 rw[List.drop_zero]at hst
 rw[hst]
 have hat:=fun j=>step8_at (d:=d) (vars:=vars) (out:=d) j hv.1 hv.2
 by_cases hm:(matchR (listsP d vars)).2=true
 ·rw[if_pos hm,if_neg]
  intro hem
  obtain⟨j,hj⟩:=List.getElem?_of_mem hem
  rw[hat j]at hj
  split at hj
  ·rename_i hjm
   obtain⟨i,hi,e⟩:=List.getElem_of_mem hjm
   obtain⟨g,hg⟩:=(matchR_iff _).1 hm
   have hl:=(left8_mem h hv hi (g i)).2 ⟨g,hg,rfl⟩
   rw[e]at hl
   exact pack_ne (fun e2=>by rw[e2]at hl;cases hl) (Option.some.inj hj)
  ·exact he (List.mem_of_getElem? hj)
 ·rw[if_neg hm,if_pos]
  cases hvs:vars with
  |nil=>exact absurd hvs hne
  |cons v vs=>
   have hi:0<vars.length:=by rw[hvs];simp
   have hv0:=hv.2 _ (List.getElem_mem hi)
   have hl:left8 d vars vars[0]=[]:=by
    cases hl:left8 d vars vars[0]with
    |nil=>rfl
    |cons x l=>
     obtain⟨g,hg,_⟩:=(left8_mem h hv hi x).1 (by rw[hl];exact .head _)
     exact absurd ((matchR_iff _).2 ⟨g,hg⟩) hm
   have:=hat vars[0].toNat
   have e:((vars[0].toNat:Nat):Int)=vars[0]:=by omega
   rw[e,if_pos (List.getElem_mem hi),hl]at this
   rw[←hvs]
   exact List.mem_of_getElem? this
def leD (a b:Doms):Prop:=a.length=b.length∧∀v x:Int,0≤v→x∈vals (domAt a v)→x∈vals (domAt b v)
structure GoodD (n:Nat)(d:Doms):Prop where
 few:FewD d
 len:d.length=n
 some': []∉d
theorem dom_at {d:Doms}{j:Nat}(h:j<d.length):domAt d (j:Int)=d[j]:=by
 unfold domAt
 rw[List.getD_eq_getElem?_getD,Int.toNat_natCast,List.getElem?_eq_getElem h];rfl
theorem SuppK.mono {a b:Doms}(h:leD a b){us:List Int}(h0: ∀u∈us,0≤u){P:List Int→Bool}{v x:Int}(hs: ∃f:Int→Int,(∀u∈us,f u∈vals (domAt a u))∧P (us.map f)=true∧f v=x): ∃f:Int→Int,(∀u∈us,f u∈vals (domAt b u))∧P (us.map f)=true∧f v=x:=by
 obtain⟨f,h1,h2,h3⟩:=hs
 exact⟨f,fun u hu=>h.2 u _ (h0 u hu) (h1 u hu),h2,h3⟩
structure SuppS (n:Nat)(us:List Int)(P:List Int→Bool)(f:Doms→Option Doms):Prop where
 ok: ∀d out,GoodD n d→f d=some out→GoodD n out∧(∀v∈us,∀x,x∈vals (domAt out v)↔∃g:Int→Int,(∀u∈us,g u∈vals (domAt d u))∧P (us.map g)=true∧g v=x)∧∀v,0≤v→v∉us→domAt out v=domAt d v
 no: ∀d,GoodD n d→f d=none→∀g:Int→Int,(∀u∈us,g u∈vals (domAt d u))→P (us.map g)=false
 in': ∀u∈us,0≤u∧u.toNat<n
 ne:us≠[]
theorem GoodD.ne {n:Nat}{d:Doms}(h:GoodD n d){v:Int}(hv:v.toNat<n): ∃x,x∈vals (domAt d v):=by
 have hm:domAt d v∈d:=by
  unfold domAt
  rw[List.getD_eq_getElem?_getD,List.getElem?_eq_getElem (by rw[h.len];exact hv)]
  exact List.getElem_mem _
 have hok:=(h.few.fine _ hm).ok
 cases hd:domAt d v with
 |nil=>rw[hd]at hm;exact absurd hm h.some'
 |cons r rest=>
  rw[hd]at hok
  exact⟨r.1,mem_vals.2 ⟨r,.head _,Int.le_refl _,hok.1 r (.head _)⟩⟩
theorem SuppS.takes {n:Nat}{us:List Int}{P:List Int→Bool}{f:Doms→Option Doms}(h:SuppS n us P f):Takes leD (GoodD n) f:=by
 refine⟨fun a a' ga he=> ?_,fun a a' b ga gb hle he=> ?_⟩
 ·obtain⟨g1,h1,h2⟩:=h.ok a a' ga he
  refine⟨g1,by rw[g1.len,ga.len],fun v x h0 hx=> ?_⟩
  by_cases hv:v∈us
  ·obtain⟨g,h3,_,rfl⟩:=(h1 v hv x).1 hx
   exact h3 v hv
  ·rw[h2 v h0 hv]at hx;exact hx
 ·obtain⟨g1,h1,h2⟩:=h.ok a a' ga he
  cases hb:f b with
  |none=>
   obtain⟨u,hu⟩:=List.exists_mem_of_ne_nil _ h.ne
   have hun:=(h.in' u hu).2
   obtain⟨x,hx⟩:=g1.ne hun
   obtain⟨g,h3,h4,_⟩:=(h1 u hu x).1 hx
   have:=h.no b gb hb g fun w hw=>hle.2 w _ (h.in' w hw).1 (h3 w hw)
   rw[h4]at this;cases this
  |some b'=>
   obtain⟨g2,h3,h4⟩:=h.ok b b' gb hb
   refine⟨b',rfl,by rw[g1.len,g2.len],fun v x h0 hx=> ?_⟩
   by_cases hv:v∈us
   ·exact(h3 v hv x).2 (SuppK.mono hle (fun u hu=>(h.in' u hu).1) ((h1 v hv x).1 hx))
   ·rw[h2 v h0 hv]at hx
    rw[h4 v h0 hv]
    exact hle.2 v x h0 hx
theorem supp8 {n:Nat}{vars:List Int}(hv:vars.Nodup∧∀v∈vars,0≤v∧v.toNat<n)(hne:vars≠[]):SuppS n vars (fun l=>decide l.Nodup) fun d=>prune8 d vars:=by
 have hV: ∀d,GoodD n d→VarsU d vars:=fun d hd=>⟨hv.1,fun v hm=>by rw[hd.len];exact hv.2 v hm⟩
 have ho: ∀d,GoodD n d→∀g:Int→Int,(∀u∈vars,g u∈vals (domAt d u))→(vars.map g).Nodup→Others (listsP d vars) fun j=>g (vars.getD j 0):=fun d hd g h1 h2=>by
  rw[listsP_eq hd.few]
  refine⟨fun j hj=> ?_,fun j k hj hk e=> ?_⟩
  ·rw[List.length_map]at hj
   have:=h1 _ (List.getElem_mem hj)
   simpa[hj]using this
  ·rw[List.length_map]at hj hk
   have e:g (vars.getD j 0)=g (vars.getD k 0):=e
   have e2:(vars.map g)[j]'(by simpa using hj)=(vars.map g)[k]'(by simpa using hk):=by simpa[hj,hk]using e
   exact(List.getElem_inj h2).1 e2
 refine⟨fun d out hd he=> ?_,fun d hd he g hg=> ?_,?_,?_⟩
 ·unfold prune8 at he
  split at he
  ·cases he
  ·split at he
   ·cases he
   ·rename_i hno
    obtain rfl:=Option.some.inj he
    have hat:=fun j=>step8_at (d:=d) (vars:=vars) (out:=d) j hv.1 (hV d hd).2
    have hdat: ∀v,v∈vars→domAt (step8 d vars vars d) v=pack (left8 d vars v):=fun v hm=>by
     have h0:=hv.2 v hm
     have:=hat v.toNat
     rw[show((v.toNat:Nat):Int)=v by omega,if_pos hm]at this
     unfold domAt
     rw[List.getD_eq_getElem?_getD,this];rfl
    refine⟨⟨⟨by rw[step8_len];exact hd.few.small,fun x hx=> ?_,fun x hx=> ?_⟩,by rw[step8_len,hd.len],hno⟩,fun v hm x=> ?_,fun v h0 hm=> ?_⟩
    ·obtain⟨j,hj⟩:=List.getElem?_of_mem hx
     rw[hat j]at hj
     split at hj
     ·obtain⟨h1,h2,h3⟩:=left8_up hd.few vars (j:Int)
      exact Option.some.inj hj▸packU_fine h1 h3 h2
     ·exact hd.few.fine x (List.mem_of_getElem? hj)
    ·obtain⟨j,hj⟩:=List.getElem?_of_mem hx
     rw[hat j]at hj
     split at hj
     ·obtain⟨h1,h2,h3⟩:=left8_up hd.few vars (j:Int)
      rw[←Option.some.inj hj,vals_pack h1];exact h2
     ·exact hd.few.few x (List.mem_of_getElem? hj)
    ·rw[hdat v hm,vals_pack (left8_up hd.few vars v).1]
     obtain⟨i,hi,rfl⟩:=List.getElem_of_mem hm
     rw[left8_mem hd.few (hV d hd) hi]
     have hlen:(listsP d vars).length=vars.length:=List.length_map ..
     constructor
     ·rintro⟨g,⟨h1,h2⟩,rfl⟩
      refine⟨fun u=>g (vars.idxOf u),fun u hu=> ?_,?_,?_⟩
      ·have hx:=List.idxOf_lt_length_of_mem hu
       have:=h1 (vars.idxOf u) (by omega)
       rw[listsP_eq hd.few]at this
       simpa[hx]using this
      ·refine decide_eq_true (nodup_map hv.1 fun a ha b hb e=> ?_)
       have hxa:=List.idxOf_lt_length_of_mem ha
       have hxb:=List.idxOf_lt_length_of_mem hb
       have e2:=h2 _ _ (by omega) (by omega) e
       have e3:vars[vars.idxOf a]=vars[vars.idxOf b]:=by simp only[e2]
       simpa using e3
      ·show g (vars.idxOf vars[i])=g i
       congr 1
       exact hv.1.idxOf_getElem i hi
     ·rintro⟨g,h1,h2,rfl⟩
      refine⟨_,ho d hd g h1 (of_decide_eq_true h2),?_⟩
      show g (vars.getD i 0)=_
      rw[List.getD_eq_getElem?_getD,List.getElem?_eq_getElem hi];rfl
    ·by_cases hl:v.toNat<d.length
     ·have:=hat v.toNat
      rw[show((v.toNat:Nat):Int)=v by omega,if_neg hm]at this
      unfold domAt
      rw[List.getD_eq_getElem?_getD,List.getD_eq_getElem?_getD,this]
     ·unfold domAt
      rw[List.getD_eq_getElem?_getD,List.getD_eq_getElem?_getD,List.getElem?_eq_none (by rw[step8_len];omega),List.getElem?_eq_none (by omega)]
 ·refine decide_eq_false fun hn=> ?_
  have hoo:=ho d hd g hg hn
  unfold prune8 at he
  rw[if_neg hd.some']at he
  split at he
  ·rename_i hem
   obtain⟨j,hj⟩:=List.getElem?_of_mem hem
   rw[step8_at j hv.1 (hV d hd).2]at hj
   split at hj
   ·rename_i hm
    obtain⟨i,hi,e⟩:=List.getElem_of_mem hm
    have:=(left8_mem hd.few (hV d hd) hi _).2 ⟨_,hoo,rfl⟩
    rw[e]at this
    exact pack_ne (fun e2=>by rw[e2]at this;cases this) (Option.some.inj hj)
   ·exact hd.some' (List.mem_of_getElem? hj)
  ·cases he
 ·exact hv.2
 ·exact hne
theorem doms_ext {n:Nat}{a b:Doms}(ga:GoodD n a)(gb:GoodD n b)(h: ∀v x:Int,0≤v→(x∈vals (domAt a v)↔x∈vals (domAt b v))):a=b:=by
 refine List.ext_getElem (by rw[ga.len,gb.len]) fun j h1 h2=> ?_
 have h3:=h (j:Int)
 rw[dom_at h1,dom_at h2]at h3
 have f1:=(ga.few.fine _ (List.getElem_mem h1)).ok
 have f2:=(gb.few.fine _ (List.getElem_mem h2)).ok
 rw[←pack_vals f1,←pack_vals f2,up_ext (vals_up f1) (vals_up f2) fun x=>h3 x (by omega)]
theorem orderD (n:Nat):Order Doms leD (GoodD n):=by
 refine⟨fun a=>⟨rfl,fun _ _ _ h=>h⟩,fun a b c h1 h2=>⟨h1.1.trans h2.1,fun v x h0 h=>h2.2 v x h0 (h1.2 v x h0 h)⟩,fun a b ga gb h1 h2=> ?_⟩
 exact doms_ext ga gb fun v x h0=>⟨h1.2 v x h0,h2.2 v x h0⟩
theorem SuppS.stays {n:Nat}{us:List Int}{P:List Int→Bool}{f:Doms→Option Doms}(h:SuppS n us P f){a b:Doms}(ga:GoodD n a)(gb:GoodD n b)(ha:f a=some a)(hab: ∀u∈us,domAt a u=domAt b u):f b=some b:=by
 obtain⟨_,h1,_⟩:=h.ok a a ga ha
 have hsupp: ∀v∈us,∀x,x∈vals (domAt b v)↔∃g:Int→Int,(∀u∈us,g u∈vals (domAt b u))∧P (us.map g)=true∧g v=x:=fun v hv x=>by
  rw[←hab v hv,h1 v hv x]
  constructor
  ·rintro⟨g,h2,h3,h4⟩
   exact⟨g,fun u hu=>by rw[←hab u hu];exact h2 u hu,h3,h4⟩
  ·rintro⟨g,h2,h3,h4⟩
   exact⟨g,fun u hu=>by rw[hab u hu];exact h2 u hu,h3,h4⟩
 cases hb:f b with
 |none=>
  obtain⟨u,hu⟩:=List.exists_mem_of_ne_nil _ h.ne
  obtain⟨x,hx⟩:=gb.ne (h.in' u hu).2
  obtain⟨g,h2,h3,_⟩:=(hsupp u hu x).1 hx
  have:=h.no b gb hb g h2
  rw[h3]at this;cases this
 |some b'=>
  obtain⟨g',h2,h3⟩:=h.ok b b' gb hb
  congr 1
  refine doms_ext g' gb fun v x h0=> ?_
  by_cases hv:v∈us
  ·rw[h2 v hv x,hsupp v hv x]
  ·rw[h3 v h0 hv]
theorem SuppS.point {n:Nat}{us:List Int}{P:List Int→Bool}{f:Doms→Option Doms}(h:SuppS n us P f){e:Doms}(ge:GoodD n e)(g:Int→Int)(he: ∀u∈us,vals (domAt e u)=[g u]):f e=(if P (us.map g)=true then some e else none):=by
 have huniq: ∀g':Int→Int,(∀u∈us,g' u∈vals (domAt e u))→us.map g'=us.map g:=fun g' hg'=>List.map_congr_left fun u hu=>by
  have:=hg' u hu
  rw[he u hu]at this
  exact List.mem_singleton.1 this
 cases hf:f e with
 |none=>
  have:=h.no e ge hf g fun u hu=>by rw[he u hu];exact .head _
  rw[this];rfl
 |some e'=>
  obtain⟨g',h2,h3⟩:=h.ok e e' ge hf
  have hp:P (us.map g)=true:=by
   obtain⟨u,hu⟩:=List.exists_mem_of_ne_nil _ h.ne
   obtain⟨x,hx⟩:=g'.ne (h.in' u hu).2
   obtain⟨q,h4,h5,_⟩:=(h2 u hu x).1 hx
   rw[←huniq q h4];exact h5
  rw[if_pos hp]
  congr 1
  refine doms_ext g' ge fun v x h0=> ?_
  by_cases hv:v∈us
  ·rw[h2 v hv x,he v hv,List.mem_singleton]
   constructor
   ·rintro⟨q,h4,_,rfl⟩
    have:=h4 v hv
    rw[he v hv]at this
    exact List.mem_singleton.1 this
   ·rintro rfl
    exact⟨g,fun u hu=>by rw[he u hu];exact .head _,hp,rfl⟩
  ·rw[h3 v h0 hv]
def atR (a:List Int)(v:Int):Int:=if v<0 then 0 else a.getD v.toNat 0
theorem at_spec (a:List Int)(v:Int)(hl:a.length*8≤140737488355328):Spec Tryz.prog 103 false [ints a,.int .i64 v] [.val (.int .i64 (atR a v))]:=by
 refine Spec.body Tryz.func103 rfl rfl rfl fun w0 Z0=> ?_
 unfold atR
 repeat(refine .A ?_;conv=>whnf)
 refine J.g rfl rfl rfl (fun h=> ?_) (fun h=> ?_)
 ·repeat(refine .A ?_;conv=>whnf)
  refine T.ct rfl ?_
  repeat(refine .A ?_;conv=>whnf)
  exact⟨_,.v rfl rfl (by rw[if_pos h]) (fun _=>rfl) .nil⟩
 ·repeat(refine .A ?_;conv=>whnf)
  refine T.cd rfl (fun h2=> ?_) (fun h2=> ?_)
  ·repeat(refine .A ?_;conv=>whnf)
   refine⟨_,.v rfl rfl ?_ (fun _=>rfl) .nil⟩
   rw[if_neg h,List.getD_eq_getElem?_getD,List.getElem?_eq_none (by simp at h2;omega)];rfl
  ·have h2:v.toNat<a.length:=by simp at h2;omega
   repeat(refine .A ?_;conv=>whnf)
   refine J.i rfl rfl rfl rfl rfl rfl rfl rfl rfl (r:=cI a[v.toNat]) (by omega) (row_i h2) rfl ?_
   repeat(refine .A ?_;conv=>whnf)
   refine⟨_,.v rfl rfl ?_ (fun _=>rfl) .nil⟩
   rw[if_neg h,List.getD_eq_getElem?_getD,List.getElem?_eq_getElem h2];rfl
def pickedR (vars a:List Int):List Int:=vars.map (atR a)
theorem picked_spec (vars a:List Int)(hv:vars.length*8≤140737488355328)(hl:a.length*8≤140737488355328):Spec Tryz.prog 100 false [ints vars,ints a] [.own 3 1 ((pickedR vars a).map cI)]:=by
 refine Spec.body Tryz.func100 rfl rfl rfl fun w0 Z0=> ?_
 repeat(refine .A ?_;conv=>whnf)
 refine .O ?_
 repeat(refine .A ?_;conv=>whnf)
 refine T.K (T.ind (fun i:Nat=>⟨[(0,.val false (ints vars)),(1,.val false (ints a)),(4,.nilsl),(5,.ref 0),(6,.val true (.int .i64 i))],[(0,some (.sl 3 1 true ((pickedR (vars.take i) a).map cI)))],1⟩) (fun i=>i≤vars.length) (fun i=>vars.length-i) 0 (by simp) (fun _ _ h=>h) ?_)
 rintro i hi ih
 repeat(refine .A ?_;conv=>whnf)
 refine T.cd rfl (fun h1=> ?_) (fun h1=> ?_)
 ·have h1:i<vars.length:=by simpa using h1
  repeat(refine .A ?_;conv=>whnf)
  refine .I (r:=cI vars[i]) (row_i h1) ?_
  repeat(refine .A ?_;conv=>whnf)
  refine .C (at_spec a vars[i] hl) ?_
  repeat(refine .A ?_;conv=>whnf)
  refine .V ?_
  refine J.aI rfl rfl rfl rfl rfl rfl rfl rfl rfl rfl rfl rfl rfl rfl rfl rfl rfl rfl rfl (by simp[pickedR];omega) ?_
  repeat(refine .A ?_;conv=>whnf)
  rw[wrap1 (l:=vars.length) (by omega) (by omega)]
  have e:pickedR (vars.take i) a++[atR a vars[i]]=pickedR (vars.take (i+1)) a:=by
   rw[List.take_succ_eq_append_getElem h1]
   unfold pickedR
   rw[List.map_append]
   rfl
  rw[e]
  exact T.K (ih (i+1) (by omega) (by omega))
 ·have h1:i=vars.length:=by simp at h1;omega
  subst h1
  repeat(refine .A ?_;conv=>whnf)
  refine⟨_,.o rfl rfl (by rw[List.take_length]) (fun _=> .inl rfl) (by simp) .nil⟩
def heldR (op n rhs:Int):Bool:=if op=0 then decide (n≤rhs)else(decide (n=rhs)==decide (op=1))
theorem held_spec (op n rhs:Int):Spec Tryz.prog 101 false [.int .i64 op,.int .i64 n,.int .i64 rhs] [.val (.bool (heldR op n rhs))]:=by
 refine Spec.body Tryz.func101 rfl rfl rfl fun w0 Z0=> ?_
 unfold heldR
 repeat(refine .A ?_;conv=>whnf)
 refine T.cd rfl (fun h=> ?_) (fun h=> ?_)
 ·repeat(refine .A ?_;conv=>whnf)
  exact⟨_,.v rfl rfl (by rw[if_pos h]) (fun _=>rfl) .nil⟩
 ·repeat(refine .A ?_;conv=>whnf)
  exact⟨_,.v rfl rfl (by rw[if_neg h]) (fun _=>rfl) .nil⟩
def sumW (vars coefs a:List Int):Int:=(vars.zip coefs).foldl (fun n p=>IntKind.i64.wrap (n+IntKind.i64.wrap (p.2*atR a p.1))) 0
theorem rsum_spec (vars coefs a:List Int)(hv:vars.length*8≤140737488355328)(hc:coefs.length*8≤140737488355328)(hl:a.length*8≤140737488355328):Spec Tryz.prog 102 false [ints vars,ints coefs,ints a] [.val (.int .i64 (sumW vars coefs a))]:=by
 refine Spec.body Tryz.func102 rfl rfl rfl fun w0 Z0=> ?_
 repeat(refine .A ?_;conv=>whnf)
 refine T.K (T.ind (fun i:Nat=>⟨[(0,.val false (ints vars)),(1,.val false (ints coefs)),(2,.val false (ints a)),(7,.val true (.int .i64 (sumW (vars.take i) (coefs.take i) a))),(8,.val true (.int .i64 i))],[],0⟩) (fun i=>i≤vars.length∧i≤coefs.length) (fun i=>vars.length-i) 0 (by simp) (fun _ _ h=>h) ?_)
 rintro i ⟨hi,hi2⟩ ih
 have fin: ∀(h:i=vars.length∨i=coefs.length),sumW (vars.take i) (coefs.take i) a=sumW vars coefs a:=by
  intro h
  unfold sumW
  rw[List.zip_eq_zipWith,List.zip_eq_zipWith,←List.take_zipWith,List.take_of_length_le]
  simp;omega
 repeat(refine .A ?_;conv=>whnf)
 refine J.g rfl rfl rfl (fun h=> ?_) (fun h=> ?_)
 ·have h:i<vars.length:=by simpa using h
  repeat(refine .A ?_;conv=>whnf)
  refine T.cd rfl (fun h1=> ?_) (fun h1=> ?_)
  ·have h1:i<coefs.length:=by simpa using h1
   repeat(refine .A ?_;conv=>whnf)
   refine .I (r:=cI coefs[i]) (row_i h1) ?_
   repeat(refine .A ?_;conv=>whnf)
   refine .I (r:=cI vars[i]) (row_i h) ?_
   repeat(refine .A ?_;conv=>whnf)
   refine .C (at_spec a vars[i] hl) ?_
   repeat(refine .A ?_;conv=>whnf)
   have e:IntKind.i64.wrap (sumW (vars.take i) (coefs.take i) a+IntKind.i64.wrap (coefs[i]*atR a vars[i]))=sumW (vars.take (i+1)) (coefs.take (i+1)) a:=by
    unfold sumW
    rw[List.take_succ_eq_append_getElem h,List.take_succ_eq_append_getElem h1,List.zip_append (by simp;omega),List.foldl_append]
    rfl
   rw[e,wrap1 (l:=vars.length) (by omega) (by omega)]
   exact T.K (ih (i+1) ⟨by omega,by omega⟩ (by omega))
  ·repeat(refine .A ?_;conv=>whnf)
   refine⟨_,.v rfl rfl (by rw[fin];simp at h1;omega) (fun _=>rfl) .nil⟩
 ·repeat(refine .A ?_;conv=>whnf)
  refine T.cf rfl ?_
  repeat(refine .A ?_;conv=>whnf)
  refine⟨_,.v rfl rfl (by rw[fin];simp at h;omega) (fun _=>rfl) .nil⟩
def orderR:List Int→List Int→Int
 | [],[]=>0
 | [],_::_=> -1
 |_::_,[]=>1
 |x::xs,y::ys=>if x<y then -1 else if y<x then 1 else orderR xs ys
theorem order_spec (a b:List Int)(ha:a.length*8≤140737488355328)(hb:b.length*8≤140737488355328):Spec Tryz.prog 104 false [ints a,ints b] [.val (.int .i64 (orderR a b))]:=by
 refine Spec.body Tryz.func104 rfl rfl rfl fun w0 Z0=> ?_
 repeat(refine .A ?_;conv=>whnf)
 refine T.K (T.ind (fun i:Nat=>⟨[(0,.val false (ints a)),(1,.val false (ints b)),(5,.val true (.int .i64 i))],[],0⟩) (fun i=>i≤a.length∧i≤b.length∧orderR (a.drop i) (b.drop i)=orderR a b) (fun i=>a.length-i) 0 (by simp) (fun _ _ h=>h) ?_)
 rintro i ⟨hi,hi2,he⟩ ih
 repeat(refine .A ?_;conv=>whnf)
 refine J.g rfl rfl rfl (fun h=> ?_) (fun h=> ?_)
 ·have h:i<a.length:=by simpa using h
  repeat(refine .A ?_;conv=>whnf)
  refine T.cd rfl (fun h1=> ?_) (fun h1=> ?_)
  ·have h1:i<b.length:=by simpa using h1
   have ed:orderR (a.drop i) (b.drop i)=if a[i]<b[i]then -1 else if b[i]<a[i]then 1 else orderR (a.drop (i+1)) (b.drop (i+1)):=by
    rw[List.drop_eq_getElem_cons h,List.drop_eq_getElem_cons h1,orderR]
   repeat(refine .A ?_;conv=>whnf)
   refine .I (r:=cI a[i]) (row_i h) ?_
   repeat(refine .A ?_;conv=>whnf)
   refine .I (r:=cI b[i]) (row_i h1) ?_
   repeat(refine .A ?_;conv=>whnf)
   refine T.cd rfl (fun h2=> ?_) (fun h2=> ?_)
   ·repeat(refine .A ?_;conv=>whnf)
    refine⟨_,.v rfl rfl ?_ (fun _=>rfl) .nil⟩
    rw[←he,ed,if_pos h2]
   ·repeat(refine .A ?_;conv=>whnf)
    refine .I (r:=cI a[i]) (row_i h) ?_
    repeat(refine .A ?_;conv=>whnf)
    refine .I (r:=cI b[i]) (row_i h1) ?_
    repeat(refine .A ?_;conv=>whnf)
    refine T.cd rfl (fun h3=> ?_) (fun h3=> ?_)
    ·repeat(refine .A ?_;conv=>whnf)
     refine⟨_,.v rfl rfl ?_ (fun _=>rfl) .nil⟩
     rw[←he,ed,if_neg h2,if_pos h3]
    ·repeat(refine .A ?_;conv=>whnf)
     rw[wrap1 (l:=a.length) (by omega) (by omega)]
     refine T.K (ih (i+1) ⟨by omega,by omega,?_⟩ (by omega))
     rw[←he,ed,if_neg h2,if_neg h3]
  ·have h1:i=b.length:=by simp at h1;omega
   repeat(refine .A ?_;conv=>whnf)
   refine T.cd rfl (fun h2=> ?_) (fun h2=> ?_)
   ·exact absurd h2 (by simp;omega)
   ·repeat(refine .A ?_;conv=>whnf)
    refine T.cd rfl (fun h3=> ?_) (fun h3=> ?_)
    ·repeat(refine .A ?_;conv=>whnf)
     refine⟨_,.v rfl rfl ?_ (fun _=>rfl) .nil⟩
     rw[←he,h1,List.drop_length,List.drop_eq_getElem_cons (by omega),orderR]
    ·exact absurd (by simp;omega) h3
 ·have h:i=a.length:=by simp at h;omega
  repeat(refine .A ?_;conv=>whnf)
  refine T.cf rfl ?_
  repeat(refine .A ?_;conv=>whnf)
  refine T.cd rfl (fun h2=> ?_) (fun h2=> ?_)
  ·have h2:a.length<b.length:=by simpa using h2
   repeat(refine .A ?_;conv=>whnf)
   refine⟨_,.v rfl rfl ?_ (fun _=>rfl) .nil⟩
   rw[←he,h,List.drop_length,List.drop_eq_getElem_cons h2,orderR]
  ·have h2: ¬a.length<b.length:=by simpa using h2
   repeat(refine .A ?_;conv=>whnf)
   refine T.cd rfl (fun h3=> ?_) (fun h3=> ?_)
   ·exact absurd h3 (by simp;omega)
   ·repeat(refine .A ?_;conv=>whnf)
    refine⟨_,.v rfl rfl ?_ (fun _=>rfl) .nil⟩
    rw[←he,h,List.drop_length,List.drop_eq_nil_of_le (by omega),orderR]
def holds6 (vars a:List Int):Bool:=decide (orderR ((pickedR vars a).take (vars.length / 2)) ((pickedR vars a).drop (vars.length / 2))≤0)
def litH (p:Int×Int):Bool:=(decide (p.2=1)&&decide (p.1=1))||(decide (p.2= -1)&&decide (p.1=0))
def elemH (l:List Int):Bool:=decide (2≤l.length)&&decide (0≤l.getD 0 0)&&decide (l.getD 0 0+2<l.length)&&decide (l.getD (l.getD 0 0+2).toNat 0=l.getD 1 0)
def soR (c:Con)(a:List Int):Bool:=heldR c.op (sumW c.vars c.coefs a) c.rhs
def holdsR (c:Con)(a:List Int):Bool:=
 if c.kind=0 then soR c a else
 if c.kind=1 then decide ((sortU (pickedR c.vars a)).length=(pickedR c.vars a).length)else
 if c.kind=2 then c.rows.any fun r=>decide (r=pickedR c.vars a)else
 if c.kind=3 then elemH (pickedR c.vars a)else
 if c.kind=4 then(soR c a&&decide (atR a c.b=1))||(!soR c a&&decide (atR a c.b=0))else
 if c.kind=5 then((pickedR c.vars a).zip c.coefs).any litH else
 holds6 c.vars a
theorem holds_spec (c:Con)(a:List Int)(hc:ConB c)(hl:a.length*8≤140737488355328)(hk5:c.kind=5→c.vars.length≤c.coefs.length)(hk3:c.kind=3→∀x∈a,x≤4611686018427387904):
  Spec Tryz.prog 54 false [.agg (cC c),ints a] [.val (.bool (holdsR c a))]:=by
 obtain⟨h1,h2,h3,h4⟩:=hc
 refine Spec.body Tryz.func54 rfl rfl rfl fun w0 Z0=> ?_
 have hpl:(pickedR c.vars a).length=c.vars.length:=by simp[pickedR]
 have hheld:=held_spec c.op (sumW c.vars c.coefs a) c.rhs
 have hso:heldR c.op (sumW c.vars c.coefs a) c.rhs=soR c a:=rfl
 rw[hso]at hheld
 have hsort:=sorted_spec (pickedR c.vars a) (by omega)
 have hat:=at_spec a c.b hl
 have ho6:holds6 c.vars a=decide (orderR ((pickedR c.vars a).take (c.vars.length / 2)) ((pickedR c.vars a).drop (c.vars.length / 2))≤0):=rfl
 have hord:=order_spec ((pickedR c.vars a).take (c.vars.length / 2)) ((pickedR c.vars a).drop (c.vars.length / 2)) (by simp;omega) (by simp;omega)
 have hpk:=picked_spec c.vars a (by omega) hl
 have hsm:=rsum_spec c.vars c.coefs a (by omega) h2 hl
 have hpin:c.kind=3→∀x∈pickedR c.vars a,x≤4611686018427387904:=by
  intro hk x hx
  obtain⟨v,_,rfl⟩:=List.mem_map.1 hx
  unfold atR
  split
  ·omega
  ·rw[List.getD_eq_getElem?_getD]
   cases hg:a[v.toNat]? with
   |none=>simp
   |some y=>simpa using hk3 hk y (List.mem_of_getElem? hg)
 clear hso
 unfold holdsR
 generalize holds6 c.vars a=h6 at*
 generalize sumW c.vars c.coefs a=sm at*
 generalize soR c a=so at*
 generalize pickedR c.vars a=l at*
 repeat(refine .A ?_;conv=>whnf)
 refine .C hpk ?_
 repeat(refine .A ?_;conv=>whnf)
 refine .C hsm ?_
 repeat(refine .A ?_;conv=>whnf)
 refine .C hheld ?_
 repeat(refine .A ?_;conv=>whnf)
 refine T.cd rfl (fun k0=> ?_) (fun k0=> ?_)
 ·have k0:c.kind=0:=k0
  rw[if_pos k0]
  repeat(refine .A ?_;conv=>whnf)
  exact⟨_,.v rfl rfl rfl (fun _=>rfl) .nil⟩
 have k0: ¬c.kind=0:=k0
 rw[if_neg k0]
 repeat(refine .A ?_;conv=>whnf)
 refine T.cd rfl (fun k1=> ?_) (fun k1=> ?_)
 ·have k1:c.kind=1:=k1
  rw[if_pos k1]
  repeat(refine .A ?_;conv=>whnf)
  refine .C hsort ?_
  repeat(refine .A ?_;conv=>whnf)
  exact⟨_,.v rfl rfl (by simp;omega) (fun _=>rfl) .nil⟩
 have k1: ¬c.kind=1:=k1
 rw[if_neg k1]
 repeat(refine .A ?_;conv=>whnf)
 refine T.cd rfl (fun k2=> ?_) (fun k2=> ?_)
 ·have k2:c.kind=2:=k2
  rw[if_pos k2]
  repeat(refine .A ?_;conv=>whnf)
  refine T.sub (Rel.frz (s:=5) (fun _ h=>h) rfl rfl) ?_
  refine T.K (T.ind (fun i:Nat=>⟨[(2,.optr 0 0 0 0),(5,.val true (ints l)),(7,.val true (.int .i64 i))],[(0,some (.box false (cC c)))],1⟩) (fun i=>i≤c.rows.length∧((c.rows.take i).any fun r=>decide (r=l))=false) (fun i=>c.rows.length-i) 0 (by simp) (fun _ _ h=>h) ?_)
  rintro i ⟨hi,he⟩ ih
  repeat(refine .A ?_;conv=>whnf)
  refine T.cd rfl (fun h5=> ?_) (fun h5=> ?_)
  ·have h5:i<c.rows.length:=by simpa using h5
   have hrl:=h4 _ (List.getElem_mem h5)
   have hn:=nums_spec c.rows[i] l hrl
   repeat(refine .A ?_;conv=>whnf)
   refine .I (r:=cL c.rows[i]) (row_i h5) ?_
   repeat(refine .A ?_;conv=>whnf)
   refine .C hn ?_
   by_cases e:c.rows[i]=l
   ·have hany:(c.rows.any fun r=>decide (r=l))=true:=List.any_eq_true.2 ⟨_,List.getElem_mem h5,by simp[e]⟩
    rw[decide_eq_true e,hany]
    repeat(refine .A ?_;conv=>whnf)
    refine T.ct rfl ?_
    repeat(refine .A ?_;conv=>whnf)
    exact⟨_,.v rfl rfl rfl (fun _=>rfl) .nil⟩
   ·rw[decide_eq_false e]
    repeat(refine .A ?_;conv=>whnf)
    refine T.cf rfl ?_
    repeat(refine .A ?_;conv=>whnf)
    rw[wrap1 (l:=c.rows.length) (by omega) (by omega)]
    exact T.K (ih (i+1) ⟨by omega,by rw[List.take_succ_eq_append_getElem h5,List.any_append,he];simp[e]⟩ (by omega))
  ·have h5:i=c.rows.length:=by simp at h5;omega
   subst h5
   rw[List.take_length]at he
   rw[he]
   repeat(refine .A ?_;conv=>whnf)
   exact⟨_,.v rfl rfl rfl (fun _=>rfl) .nil⟩
 have k2: ¬c.kind=2:=k2
 rw[if_neg k2]
 repeat(refine .A ?_;conv=>whnf)
 refine T.cd rfl (fun k3=> ?_) (fun k3=> ?_)
 ·have k3:c.kind=3:=k3
  rw[if_pos k3]
  have hpin:=hpin k3
  unfold elemH
  repeat(refine .N ?_;conv=>whnf)
  refine T.sub (Rel.frz (s:=5) (fun _ h=>h) rfl rfl) ?_
  repeat(refine .A ?_;conv=>whnf)
  refine J.g rfl rfl rfl (fun g1=> ?_) (fun g1=> ?_)
  ·have g1:2≤l.length:=by
    have g1:((l.map cI).length:Int)≥2:=g1
    simp only[List.length_map]at g1;omega
   obtain⟨x0,hx0⟩: ∃x,l[0]? =some x:=⟨_,List.getElem?_eq_getElem (by omega)⟩
   obtain⟨x1,hx1⟩: ∃x,l[1]? =some x:=⟨_,List.getElem?_eq_getElem (by omega)⟩
   have e0:l.getD 0 0=x0:=by rw[List.getD_eq_getElem?_getD,hx0];rfl
   have e1:l.getD 1 0=x1:=by rw[List.getD_eq_getElem?_getD,hx1];rfl
   have hr0:(l.map cI)[(0:Int).toNat]? =some (cI x0):=by simp[hx0]
   have hr1:(l.map cI)[(1:Int).toNat]? =some (cI x1):=by simp[hx1]
   have hp0:=hpin x0 (List.mem_of_getElem? hx0)
   rw[decide_eq_true g1,e0,e1]
   repeat(refine .A ?_;conv=>whnf)
   refine J.i rfl rfl rfl rfl rfl rfl rfl rfl rfl (r:=cI x0) (by decide) hr0 rfl ?_
   repeat(refine .A ?_;conv=>whnf)
   refine J.g rfl rfl rfl (fun g2=> ?_) (fun g2=> ?_)
   ·have g2:0≤x0:=g2
    have ew:IntKind.i64.wrap (x0+2)=x0+2:=wrap_id (by omega) (by omega)
    rw[decide_eq_true g2]
    repeat(refine .A ?_;conv=>whnf)
    refine J.i rfl rfl rfl rfl rfl rfl rfl rfl rfl (r:=cI x0) (by decide) hr0 rfl ?_
    repeat' first|refine J.e rfl rfl rfl rfl ?_|refine J.skip rfl rfl rfl ?_|refine J.bx rfl rfl rfl rfl rfl rfl ?_
    rw[ew]
    repeat' first|refine J.e rfl rfl rfl rfl ?_|refine J.skip rfl rfl rfl ?_|refine J.bx rfl rfl rfl rfl rfl rfl ?_
    refine J.g rfl rfl rfl (fun g3=> ?_) (fun g3=> ?_)
    ·have g3:x0+2<l.length:=by simpa using g3
     have g4:(x0+2).toNat<l.length:=by omega
     obtain⟨x2,hx2⟩: ∃x,l[(x0+2).toNat]? =some x:=⟨_,List.getElem?_eq_getElem g4⟩
     have e2:l.getD (x0+2).toNat 0=x2:=by rw[List.getD_eq_getElem?_getD,hx2];rfl
     have hr2:(l.map cI)[(x0+2).toNat]? =some (cI x2):=by simp[hx2]
     rw[decide_eq_true g3,e2]
     repeat(refine .A ?_;conv=>whnf)
     refine J.i rfl rfl rfl rfl rfl rfl rfl rfl rfl (r:=cI x0) (by decide) hr0 rfl ?_
     repeat' first|refine J.e rfl rfl rfl rfl ?_|refine J.skip rfl rfl rfl ?_|refine J.bx rfl rfl rfl rfl rfl rfl ?_
     rw[ew]
     refine .I (r:=cI x2) hr2 ?_
     repeat(refine .A ?_;conv=>whnf)
     refine J.i rfl rfl rfl rfl rfl rfl rfl rfl rfl (r:=cI x1) (by decide) hr1 rfl ?_
     repeat(refine .A ?_;conv=>whnf)
     exact⟨_,.v rfl rfl (by simp) (fun _=>rfl) .nil⟩
    ·have g3: ¬x0+2<l.length:=by simpa using g3
     rw[decide_eq_false g3]
     repeat(refine .A ?_;conv=>whnf)
     exact⟨_,.v rfl rfl (by simp) (fun _=>rfl) .nil⟩
   ·have g2: ¬0≤x0:=g2
    rw[decide_eq_false g2]
    repeat(refine .A ?_;conv=>whnf)
    exact⟨_,.v rfl rfl (by simp) (fun _=>rfl) .nil⟩
  ·have g1: ¬2≤l.length:=by
    have g1: ¬((l.map cI).length:Int)≥2:=g1
    simp only[List.length_map]at g1;omega
   rw[decide_eq_false g1]
   repeat(refine .A ?_;conv=>whnf)
   exact⟨_,.v rfl rfl (by simp) (fun _=>rfl) .nil⟩
 have k3: ¬c.kind=3:=k3
 rw[if_neg k3]
 repeat(refine .A ?_;conv=>whnf)
 refine T.cd rfl (fun k4=> ?_) (fun k4=> ?_)
 ·have k4:c.kind=4:=k4
  rw[if_pos k4]
  cases so
  ·repeat(refine .A ?_;conv=>whnf)
   refine .C hat ?_
   repeat(refine .A ?_;conv=>whnf)
   exact⟨_,.v rfl rfl (by simp) (fun _=>rfl) .nil⟩
  ·repeat(refine .A ?_;conv=>whnf)
   refine .C hat ?_
   generalize atR a c.b=ab at*
   repeat(refine .A ?_;conv=>whnf)
   refine J.g rfl rfl rfl (fun h=> ?_) (fun h=> ?_)
   ·have h:ab=1:=h
    rw[decide_eq_true h]
    repeat(refine .A ?_;conv=>whnf)
    exact⟨_,.v rfl rfl (by simp) (fun _=>rfl) .nil⟩
   ·have h: ¬ab=1:=h
    rw[decide_eq_false h]
    repeat(refine .A ?_;conv=>whnf)
    exact⟨_,.v rfl rfl (by simp) (fun _=>rfl) .nil⟩
 have k4: ¬c.kind=4:=k4
 rw[if_neg k4]
 repeat(refine .A ?_;conv=>whnf)
 refine T.cd rfl (fun k5=> ?_) (fun k5=> ?_)
 ·have k5:c.kind=5:=k5
  rw[if_pos k5]
  have hk5:=hk5 k5
  repeat(refine .N ?_;conv=>whnf)
  refine T.sub (Rel.frz (s:=5) (fun _ h=>h) rfl rfl) ?_
  refine T.K (T.ind (fun i:Nat=>⟨[(2,.optr 0 0 0 0),(5,.val true (ints l)),(8,.val true (.int .i64 i))],[(0,some (.box false (cC c)))],1⟩) (fun i=>i≤l.length∧((l.zip c.coefs).take i).any litH=false) (fun i=>l.length-i) 0 (by simp) (fun _ _ h=>h) ?_)
  rintro i ⟨hi,he⟩ ih
  repeat(refine .A ?_;conv=>whnf)
  refine T.cd rfl (fun h5=> ?_) (fun h5=> ?_)
  ·have h5:i<l.length:=by simpa using h5
   have h6:i<c.coefs.length:=by omega
   have hz:i<(l.zip c.coefs).length:=by simp;omega
   have eyes:litH (l[i],c.coefs[i])=true→(l.zip c.coefs).any litH=true:=fun h=>List.any_eq_true.2 ⟨(l[i],c.coefs[i]),by rw[←List.getElem_zip (h:=hz)];exact List.getElem_mem hz,h⟩
   have eno:litH (l[i],c.coefs[i])=false→((l.zip c.coefs).take (i+1)).any litH=false:=fun h=>by
    rw[List.take_succ_eq_append_getElem hz,List.any_append,he,List.getElem_zip]
    simp[h]
   have edef:litH (l[i],c.coefs[i])=((decide (c.coefs[i]=1)&&decide (l[i]=1))||(decide (c.coefs[i]= -1)&&decide (l[i]=0))):=rfl
   have hrl:=row_i (enc:=cI) h5
   have hrk:=row_i (enc:=cI) h6
   generalize litH (l[i],c.coefs[i])=lb at*
   generalize l[i]=x at*
   generalize c.coefs[i]=k at*
   repeat(refine .A ?_;conv=>whnf)
   refine .I (r:=cI k) hrk ?_
   repeat(refine .A ?_;conv=>whnf)
   refine J.g rfl rfl rfl (fun g1=> ?_) (fun g1=> ?_)
   ·have g1:k=1:=g1
    have g9: ¬k= -1:=by omega
    rw[decide_eq_true g1,decide_eq_false g9]at edef
    repeat(refine .A ?_;conv=>whnf)
    refine .I (r:=cI x) hrl ?_
    repeat(refine .A ?_;conv=>whnf)
    refine J.g rfl rfl rfl (fun g2=> ?_) (fun g2=> ?_)
    ·have g2:x=1:=g2
     rw[decide_eq_true g2]at edef
     repeat(refine .A ?_;conv=>whnf)
     have hb:lb=true:=by rw[edef];rfl
     rw[eyes hb]
     refine T.ct rfl ?_
     repeat(refine .A ?_;conv=>whnf)
     exact⟨_,.v rfl rfl rfl (fun _=>rfl) .nil⟩
    ·have g2: ¬x=1:=g2
     rw[decide_eq_false g2]at edef
     repeat(refine .A ?_;conv=>whnf)
     refine .I (r:=cI k) hrk ?_
     repeat(refine .A ?_;conv=>whnf)
     refine J.g rfl rfl rfl (fun g3=>absurd g3 g9) (fun _=> ?_)
     repeat(refine .A ?_;conv=>whnf)
     have hb:lb=false:=by rw[edef];rfl
     refine T.cf rfl ?_
     repeat(refine .A ?_;conv=>whnf)
     rw[wrap1 (l:=l.length) (by omega) (by omega)]
     exact T.K (ih (i+1) ⟨by omega,eno hb⟩ (by omega))
   ·have g1: ¬k=1:=g1
    rw[decide_eq_false g1]at edef
    repeat(refine .A ?_;conv=>whnf)
    refine .I (r:=cI k) hrk ?_
    repeat(refine .A ?_;conv=>whnf)
    refine J.g rfl rfl rfl (fun g3=> ?_) (fun g3=> ?_)
    ·have g3:k= -1:=g3
     rw[decide_eq_true g3]at edef
     repeat(refine .A ?_;conv=>whnf)
     refine .I (r:=cI x) hrl ?_
     repeat(refine .A ?_;conv=>whnf)
     by_cases g4:x=0
     ·rw[decide_eq_true g4]at edef⊢
      have hb:lb=true:=by rw[edef];rfl
      rw[eyes hb]
      refine T.ct rfl ?_
      repeat(refine .A ?_;conv=>whnf)
      exact⟨_,.v rfl rfl rfl (fun _=>rfl) .nil⟩
     ·rw[decide_eq_false g4]at edef⊢
      have hb:lb=false:=by rw[edef];rfl
      refine T.cf rfl ?_
      repeat(refine .A ?_;conv=>whnf)
      rw[wrap1 (l:=l.length) (by omega) (by omega)]
      exact T.K (ih (i+1) ⟨by omega,eno hb⟩ (by omega))
    ·have g3: ¬k= -1:=g3
     rw[decide_eq_false g3]at edef
     repeat(refine .A ?_;conv=>whnf)
     have hb:lb=false:=by rw[edef];rfl
     refine T.cf rfl ?_
     repeat(refine .A ?_;conv=>whnf)
     rw[wrap1 (l:=l.length) (by omega) (by omega)]
     exact T.K (ih (i+1) ⟨by omega,eno hb⟩ (by omega))
  ·have h5:i=l.length:=by simp at h5;omega
   subst h5
   rw[List.take_of_length_le (by simp;omega)]at he
   rw[he]
   repeat(refine .A ?_;conv=>whnf)
   exact⟨_,.v rfl rfl rfl (fun _=>rfl) .nil⟩
 have k5: ¬c.kind=5:=k5
 rw[if_neg k5]
 repeat(refine .N ?_;conv=>whnf)
 have e1:IntKind.i64.wrap (((l.map cI).length:Int).tdiv 2)=((c.vars.length / 2:Nat):Int):=by
  rw[List.length_map,hpl,Int.tdiv_eq_ediv_of_nonneg (by omega),wrap_id (by omega) (by omega)]
  simp
 rw[e1]
 refine T.sub (Rel.frz (s:=5) (fun _ h=>h) rfl rfl) ?_
 repeat(refine .A ?_;conv=>whnf)
 refine J.s1 (enc:=cI) (c.vars.length / 2) rfl rfl rfl rfl rfl rfl rfl rfl rfl (fun _=>rfl) rfl (by omega) ?_
 repeat(refine .A ?_;conv=>whnf)
 refine J.s3 (enc:=cI) (c.vars.length / 2) rfl rfl rfl rfl rfl rfl rfl rfl rfl (fun _=>rfl) rfl (by omega) ?_
 repeat(refine .A ?_;conv=>whnf)
 refine .C hord ?_
 repeat(refine .A ?_;conv=>whnf)
 exact⟨_,.v rfl rfl (by rw[ho6]) (fun _=>rfl) .nil⟩
def growR (d:Doms):Nat→List (List Int)
 |0=>[[]]
 |n+1=>(growR d n).flatMap fun a=>(vals (d.getD n [])).map fun v=>a++[v]
theorem growR_len (d:Doms): ∀(n:Nat) (a:List Int),a∈growR d n→a.length=n
 |0,a,h=>by simp[growR]at h;simp[h]
 |n+1,a,h=>by
  simp only[growR,List.mem_flatMap,List.mem_map]at h
  obtain⟨b,hb,v,_,rfl⟩:=h
  simp[growR_len d n b hb]
theorem grow_spec (d:Doms)(hd: ∀x∈d,DomB x)(hdl:d.length*8≤140737488355328): ∀n,n≤d.length→(∀m,m≤n→(growR d m).length*24≤140737488355328)→
  Spec Tryz.prog 135 false [doms d,.int .i64 n] [.own 24 1 ((growR d n).map cL)]:=by
 intro n
 induction n with
 |zero=>
  intro _ _
  refine Spec.body Tryz.func135 rfl rfl rfl fun w0 Z0=> ?_
  repeat(refine .A ?_;conv=>whnf)
  refine T.ct rfl ?_
  repeat(refine .A ?_;conv=>whnf)
  refine .V ?_
  refine .O ?_
  repeat(refine .A ?_;conv=>whnf)
  exact⟨_,.o rfl rfl rfl (fun _=> .inl rfl) (by simp) .nil⟩
 |succ n ih=>
  intro hn hm
  have hrec:=ih (by omega) (fun m h=>hm m (by omega))
  have hx:=hd _ (List.getElem_mem (show n<d.length by omega))
  have hval:=values_spec d[n] hx.1 (by have:=hx.2.1;omega) hx.2.2
  have hg:d.getD n []=d[n]:=by rw[List.getD_eq_getElem?_getD,List.getElem?_eq_getElem (by omega)];rfl
  have hgl:=growR_len d n
  have hG:growR d (n+1)=(growR d n).flatMap fun a=>(vals d[n]).map fun v=>a++[v]:=by rw[←hg];rfl
  have h1:=hm n (by omega)
  have h2:=hm (n+1) (Nat.le_refl _)
  have hsub:IntKind.i64.wrap (((n+1:Nat):Int)-1)=(n:Nat):=by rw[wrap_id (by omega) (by omega)];omega
  have hrow:(d.map cD)[((n:Nat):Int).toNat]? =some (cD d[n]):=row_i (by omega)
  have hvl:(vals d[n]).length*16≤140737488355328:=hx.2.1
  rw[hG]at h2⊢
  clear hm ih hG hg
  generalize growR d n=l at*
  generalize vals d[n]=v at*
  refine Spec.body Tryz.func135 rfl rfl rfl fun w0 Z0=> ?_
  repeat(refine .A ?_;conv=>whnf)
  refine T.cd rfl (fun h=>absurd h (by show¬((n+1:Nat):Int)=0;omega)) (fun _=> ?_)
  repeat(refine .A ?_;conv=>whnf)
  rw[hsub]
  refine .C hrec ?_
  repeat(refine .A ?_;conv=>whnf)
  rw[hsub]
  refine .I (r:=cD d[n]) hrow ?_
  repeat(refine .A ?_;conv=>whnf)
  refine .C hval ?_
  repeat(refine .A ?_;conv=>whnf)
  refine .O ?_
  repeat(refine .A ?_;conv=>whnf)
  refine T.sub (Rel.frz (s:=5) (fun _ h=>h) rfl rfl) ?_
  refine T.sub (Rel.frz (s:=6) (fun _ h=>h) rfl rfl) ?_
  have hsum: ∀(l:List (List Int)),(l.flatMap fun a=>v.map fun v=>a++[v]).length=l.length*v.length:=by
   intro l
   induction l with
   |nil=>simp
   |cons a l ih=>rw[List.flatMap_cons,List.length_append,ih,List.length_map,List.length_cons,Nat.succ_mul];omega
  rw[hsum]at h2
  refine T.K (T.ind (fun i:Nat=>⟨[(5,.val true (lists l)),(6,.val true (ints v)),(7,.ref 0),(8,.val true (.int .i64 i))],[(0,some (.sl 24 1 true (((l.take i).flatMap fun a=>v.map fun v=>a++[v]).map cL)))],1⟩) (fun i=>i≤l.length) (fun i=>l.length-i) 0 (by simp) (fun _ _ h=>h) ?_)
  rintro i hi ih
  repeat(refine .A ?_;conv=>whnf)
  refine T.cd rfl (fun h3=> ?_) (fun h3=> ?_)
  ·have h3:i<l.length:=by simpa using h3
   have hil:l[i].length=n:=hgl _ (List.getElem_mem h3)
   repeat(refine .A ?_;conv=>whnf)
   have e0:(l.take i).flatMap (fun a=>v.map fun v=>a++[v])=(l.take i).flatMap (fun a=>v.map fun v=>a++[v])++(v.take 0).map fun v=>l[i]++[v]:=by simp
   rw[e0]
   refine T.K (T.ind (fun k:Nat=>⟨[(5,.val true (lists l)),(6,.val true (ints v)),(7,.ref 0),(8,.val true (.int .i64 i)),(9,.val true (.int .i64 k))],[(0,some (.sl 24 1 true (((l.take i).flatMap (fun a=>v.map fun v=>a++[v])++(v.take k).map fun v=>l[i]++[v]).map cL)))],1⟩) (fun k=>k≤v.length) (fun k=>v.length-k) 0 (by simp) (fun _ _ h=>h) ?_)
   rintro k hk ih2
   repeat(refine .A ?_;conv=>whnf)
   refine T.cd rfl (fun h4=> ?_) (fun h4=> ?_)
   ·have h4:k<v.length:=by simpa using h4
    repeat(refine .A ?_;conv=>whnf)
    refine .O ?_
    repeat(refine .A ?_;conv=>whnf)
    refine .I (r:=cL l[i]) (row_i h3) ?_
    repeat(refine .A ?_;conv=>whnf)
    refine J.a rfl rfl rfl rfl rfl rfl rfl rfl rfl rfl rfl rfl rfl rfl rfl rfl rfl len_I (by show(0+List.length _)*8≤_;simp;omega) ?_
    repeat(refine .A ?_;conv=>whnf)
    refine .I (r:=cI v[k]) (row_i h4) ?_
    repeat(refine .A ?_;conv=>whnf)
    refine .V ?_
    refine J.aI rfl rfl rfl rfl rfl rfl rfl rfl rfl rfl rfl rfl rfl rfl rfl rfl rfl rfl rfl (by omega) ?_
    repeat(refine .A ?_;conv=>whnf)
    refine J.sub (Rel.frz (s:=52) (fun _ h=>h) rfl rfl) ?_
    repeat(refine .A ?_;conv=>whnf)
    refine .V ?_
    have hb:((l.take i).flatMap (fun a=>v.map fun v=>a++[v])++(v.take k).map fun v=>l[i]++[v]).length+1≤l.length*v.length:=by
     rw[List.length_append,hsum,List.length_map,List.length_take,List.length_take,Nat.min_eq_left (by omega),Nat.min_eq_left (by omega)]
     have:i*v.length+v.length≤l.length*v.length:=by
      rw[←Nat.succ_mul]
      exact Nat.mul_le_mul_right _ h3
     omega
    refine J.a1 (enc:=cL) (x:=l[i]++[v[k]]) (B:=24) rfl rfl rfl rfl rfl rfl rfl rfl rfl rfl rfl rfl rfl rfl rfl rfl rfl rfl rfl rfl (by omega) ?_
    repeat(refine .A ?_;conv=>whnf)
    have e:(l.take i).flatMap (fun a=>v.map fun v=>a++[v])++((v.take k).map fun v=>l[i]++[v])++[l[i]++[v[k]]]=(l.take i).flatMap (fun a=>v.map fun v=>a++[v])++(v.take (k+1)).map fun v=>l[i]++[v]:=by
     rw[List.take_succ_eq_append_getElem h4,List.map_append,List.append_assoc];rfl
    rw[e,wrap1 (l:=v.length) (by omega) (by omega)]
    exact T.K (ih2 (k+1) (by omega) (by omega))
   ·have h4:k=v.length:=by simp at h4;omega
    subst h4
    rw[List.take_length]
    repeat(refine .A ?_;conv=>whnf)
    have e:(l.take i).flatMap (fun a=>v.map fun v=>a++[v])++(v.map fun v=>l[i]++[v])=(l.take (i+1)).flatMap fun a=>v.map fun v=>a++[v]:=by
     rw[List.take_succ_eq_append_getElem h3,List.flatMap_append];simp
    rw[e,wrap1 (l:=l.length) (by omega) (by omega)]
    exact T.K (ih (i+1) (by omega) (by omega))
  ·have h3:i=l.length:=by simp at h3;omega
   subst h3
   rw[List.take_length]
   repeat(refine .A ?_;conv=>whnf)
   exact⟨_,.o rfl rfl rfl (fun _=> .inl rfl) (by simp) .nil⟩
def cutW (x:List (Int×Int))(k rest:Int):List (Int×Int):=if 0<k then domCut x (-1048576) (floorW rest k)else domCut x (wr (0-floorW rest (wr (0-k)))) 1048576
theorem cutW_ok {x:List (Int×Int)}(h:DomOk x)(k rest:Int):DomOk (cutW x k rest)∧∀v,v∈vals (cutW x k rest)→v∈vals x:=by
 unfold cutW
 split
 ·exact⟨(domCut_ok h _ _).1,fun v hv=>(((domCut_ok h _ _).2 v).1 hv).1⟩
 ·exact⟨(domCut_ok h _ _).1,fun v hv=>(((domCut_ok h _ _).2 v).1 hv).1⟩
theorem cutW_fine {x:List (Int×Int)}(h:Fine x)(k rest:Int):Fine (cutW x k rest):=h.cut (cutW_ok h.ok k rest).1 (cutW_ok h.ok k rest).2
def restW (low rhs:Int)(x:List (Int×Int))(k:Int):Int:=wr (rhs-wr (low-(endW x k false).1))
def mostGo (low rhs:Int):List (Int×Int)→Doms→Bool→Doms×Bool×Bool
 | [],d,ch=>(d,ch,true)
 |(v,k)::l,d,ch=>
  if cutW (domAt d v) k (restW low rhs (domAt d v) k)=[]then(d,false,false)
  else mostGo low rhs l (d.set v.toNat (cutW (domAt d v) k (restW low rhs (domAt d v) k))) (ch|| !decide (cutW (domAt d v) k (restW low rhs (domAt d v) k)=domAt d v))
def mostW (d:Doms)(vars coefs:List Int)(rhs:Int):Doms×Bool×Bool:=mostGo (endsW d vars coefs).1 rhs (vars.zip coefs) d false
structure SumFine (d:Doms)(vars coefs:List Int):Prop where
 len:vars.length=coefs.length
 vl:vars.length*8≤140737488355328
 vin: ∀v∈vars,0≤v∧v.toNat<d.length
 ck: ∀k∈coefs,CoefOk k
 dom: ∀x∈d,Fine x
 dl:d.length*24≤140737488355328
theorem SumFine.in_ {d:Doms}{vars coefs:List Int}(h:SumFine d vars coefs):SumIn d vars coefs:=⟨h.len,h.vl,h.vin,h.ck,fun x hx=>(h.dom x hx).domB,h.dl⟩
theorem mem_set {d:Doms}{i:Nat}{x:List (Int×Int)}{p:List (Int×Int)→Prop}(h: ∀z∈d,p z)(hx:p x): ∀z∈d.set i x,p z:=by
 intro z hz
 rcases List.mem_or_eq_of_mem_set hz with hz|rfl
 ·exact h z hz
 ·exact hx
theorem lmost_spec (d:Doms)(vars coefs:List Int)(rhs:Int)(h:SumFine d vars coefs):
  SpecM Tryz.prog 84 45 1 (d.map cD) [ints vars,ints coefs,.int .i64 rhs] ((mostW d vars coefs rhs).1.map cD) [.bool (mostW d vars coefs rhs).2.1,.bool (mostW d vars coefs rhs).2.2]:=by
 refine SpecM.body Tryz.func84 rfl rfl rfl (by simp[PV.flat]) fun w0 v0 Z1=> ?_
 have hends:=lends_spec d vars coefs h.in_
 obtain⟨hlen,hvl,hvin,hck,hdom,hdl⟩:=h
 unfold mostW
 generalize endsW d vars coefs=es at*
 obtain⟨low,high,is⟩:=es
 simp only at hends⊢
 generalize hres:mostGo low rhs (vars.zip coefs) d false=res
 repeat(refine .A ?_;conv=>whnf)
 refine .C hends ?_
 repeat(refine .A ?_;conv=>whnf)
 refine T.K (T.ind (fun s:Nat×Doms×Bool=>⟨[(0,.ref 0),(2,.val false (ints coefs)),(3,.val false (.int .i64 rhs)),(10,.val true (.int .i64 low)),(13,.val true (.bool s.2.2)),(29,.val false (ints vars)),(30,.val true (.int .i64 (vars.map cI).length)),(31,.val true (.int .i64 s.1))],[(0,some (.sl 45 1 true (s.2.1.map cD)))],1⟩)
  (fun s=>s.1≤vars.length∧mostGo low rhs ((vars.zip coefs).drop s.1) s.2.1 s.2.2=res∧s.2.1.length=d.length∧∀x∈s.2.1,Fine x) (fun s=>vars.length-s.1) (0,d,false) ⟨by simp,hres,rfl,hdom⟩ (fun _ _ h=>h) ?_)
 rintro⟨i,d1,ch⟩ ⟨hil,he,hl1,hf1⟩ ih
 simp only at hil he hl1 hf1
 dsimp only
 repeat(refine .A ?_;conv=>whnf)
 refine T.cd rfl (fun h1=> ?_) (fun h1=> ?_)
 ·have h1:i<vars.length:=by simpa using h1
  have h2:i<coefs.length:=by omega
  have hv:=hvin _ (List.getElem_mem h1)
  have hk:=hck _ (List.getElem_mem h2)
  have hk2:=coef_int hk
  have hvd:vars[i].toNat<d1.length:=by omega
  have hx:=hf1 _ (domAt_mem hvd)
  have hrow:(d1.map cD)[vars[i].toNat]? =some (cD (domAt d1 vars[i])):=by simp[domAt_some hvd]
  have hz:i<(vars.zip coefs).length:=by simp;omega
  rw[List.drop_eq_getElem_cons hz,List.getElem_zip,mostGo]at he
  have hend:=lend_spec (domAt d1 vars[i]) coefs[i] false hx.domB hk
  have hfl:coefs[i]≠0:=hk.1
  have hng:IntKind.i64.wrap (0-coefs[i])≠0:=by rw[wrap_id (by omega) (by omega)];omega
  have hfine:=cutW_fine hx coefs[i] (restW low rhs (domAt d1 vars[i]) coefs[i])
  have hdc:=fun lo hi=>(domcut_spec (domAt d1 vars[i]) lo hi (by have:=hx.len;omega)).frz
  have hcw:cutW (domAt d1 vars[i]) coefs[i] (restW low rhs (domAt d1 vars[i]) coefs[i])=if 0<coefs[i]then domCut (domAt d1 vars[i]) (-1048576) (floorW (restW low rhs (domAt d1 vars[i]) coefs[i]) coefs[i])else domCut (domAt d1 vars[i]) (wr (0-floorW (restW low rhs (domAt d1 vars[i]) coefs[i]) (wr (0-coefs[i])))) 1048576:=rfl
  have hsame:=fun x hxl=>domsame_spec x (domAt d1 vars[i]) hxl
  generalize cutW (domAt d1 vars[i]) coefs[i] (restW low rhs (domAt d1 vars[i]) coefs[i])=cx at*
  unfold restW at hcw
  generalize endW (domAt d1 vars[i]) coefs[i] false=e1 at*
  generalize hvi:vars[i]=v at*
  generalize hki:coefs[i]=k at*
  generalize domAt d1 v=dv at*
  repeat(refine .A ?_;conv=>whnf)
  refine J.i rfl rfl rfl rfl rfl rfl rfl rfl rfl (r:=cI v) (by omega) (by rw[←hvi];exact row_i h1) rfl ?_
  repeat(refine .A ?_;conv=>whnf)
  refine J.i rfl rfl rfl rfl rfl rfl rfl rfl rfl (r:=cI k) (by omega) (by rw[←hki];exact row_i h2) rfl ?_
  repeat(refine .A ?_;conv=>whnf)
  refine J.io rfl rfl rfl rfl rfl rfl rfl rfl rfl hv.1 (by simpa using hvd) rfl ?_
  refine J.lo rfl rfl rfl rfl rfl rfl (r:=cD dv) hrow rfl ?_
  repeat(refine .A ?_;conv=>whnf)
  refine .C hend ?_
  repeat(refine .A ?_;conv=>whnf)
  refine J.io rfl rfl rfl rfl rfl rfl rfl rfl rfl hv.1 (by simpa using hvd) rfl ?_
  refine J.lo rfl rfl rfl rfl rfl rfl (r:=cD dv) hrow rfl ?_
  repeat' first|refine J.e rfl rfl rfl rfl ?_|refine J.skip rfl rfl rfl ?_|refine J.bx rfl rfl rfl rfl rfl rfl ?_
  refine J.nil ?_
  refine T.mid ⟨[(0,.ref 0),(2,.val false (ints coefs)),(3,.val false (.int .i64 rhs)),(10,.val true (.int .i64 low)),(13,.val true (.bool ch)),(29,.val false (ints vars)),(30,.val true (.int .i64 (vars.map cI).length)),(31,.val true (.int .i64 i)),(15,.val true (.int .i64 v)),(20,.val true (dm cx))],[(0,some (.sl 45 1 true (d1.map cD)))],1⟩ ?_ ?_
  ·repeat(refine .A ?_;conv=>whnf)
   refine T.cd rfl (fun h3=> ?_) (fun h3=> ?_)
   ·have h3:0<k:=h3
    rw[if_pos h3]at hcw
    repeat(refine .A ?_;conv=>whnf)
    refine J.cc rfl rfl rfl rfl rfl (floor_spec _ k hfl) rfl rfl ?_
    refine J.cc rfl rfl rfl rfl rfl (hdc _ _) rfl rfl ?_
    rw[hcw]
    repeat(refine .A ?_;conv=>whnf)
    exact⟨rfl,[0,2,3,10,13,29,30,31,15,20],[0],rfl,rfl⟩
   ·have h3: ¬0<k:=h3
    rw[if_neg h3]at hcw
    repeat(refine .A ?_;conv=>whnf)
    refine J.cc rfl rfl rfl rfl rfl (floor_spec _ _ hng) rfl rfl ?_
    repeat(refine .A ?_;conv=>whnf)
    refine J.cc rfl rfl rfl rfl rfl (hdc _ _) rfl rfl ?_
    rw[hcw]
    repeat(refine .A ?_;conv=>whnf)
    exact⟨rfl,[0,2,3,10,13,29,30,31,15,20],[0],rfl,rfl⟩
  ·clear hcw
   repeat(refine .A ?_;conv=>whnf)
   refine T.cd rfl (fun h4=> ?_) (fun h4=> ?_)
   ·have h4:cx=[]:=by simp at h4;exact h4
    rw[if_pos h4]at he
    subst he
    repeat(refine .A ?_;conv=>whnf)
    exact⟨.v rfl rfl rfl (fun h=>by cases h) (.v rfl rfl rfl (fun h=>by cases h) .nil),_,rfl,rfl⟩
   ·have h4:cx≠[]:=fun e=>h4 (by rw[e];rfl)
    rw[if_neg h4]at he
    have hset:=mem_set (p:=Fine) (i:=v.toNat) hf1 hfine
    cases ch
    ·repeat(refine .A ?_;conv=>whnf)
     refine J.io rfl rfl rfl rfl rfl rfl rfl rfl rfl hv.1 (by simpa using hvd) rfl ?_
     refine J.lo rfl rfl rfl rfl rfl rfl (r:=cD dv) hrow rfl ?_
     repeat(refine .A ?_;conv=>whnf)
     refine .C (hsame cx (by have:=hfine.len;omega)) ?_
     repeat(refine .A ?_;conv=>whnf)
     refine J.io rfl rfl rfl rfl rfl rfl rfl rfl rfl hv.1 (by simpa using hvd) rfl ?_
     refine J.w1 rfl rfl rfl rfl rfl rfl rfl rfl rfl rfl rfl (fun _=>rfl) hvd ?_
     repeat(refine .A ?_;conv=>whnf)
     rw[wrap1 (l:=vars.length) (by omega) (by omega)]
     exact T.K (ih (i+1,d1.set v.toNat cx,!decide (cx=dv)) ⟨by simp only;omega,he,by simp[hl1],hset⟩ (by simp only;omega))
    ·repeat(refine .A ?_;conv=>whnf)
     refine J.io rfl rfl rfl rfl rfl rfl rfl rfl rfl hv.1 (by simpa using hvd) rfl ?_
     refine J.w1 rfl rfl rfl rfl rfl rfl rfl rfl rfl rfl rfl (fun _=>rfl) hvd ?_
     repeat(refine .A ?_;conv=>whnf)
     rw[wrap1 (l:=vars.length) (by omega) (by omega)]
     exact T.K (ih (i+1,d1.set v.toNat cx,true) ⟨by simp only;omega,he,by simp[hl1],hset⟩ (by simp only;omega))
 ·have h1:i=vars.length:=by simp at h1;omega
  subst h1
  rw[List.drop_of_length_le (by simp;omega),mostGo]at he
  subst he
  repeat(refine .A ?_;conv=>whnf)
  exact⟨.v rfl rfl rfl (fun h=>by cases h) (.v rfl rfl rfl (fun h=>by cases h) .nil),_,rfl,rfl⟩
def restRGo (i:Nat):Nat→List (List (Int×Int)×Int)→Int→Int
 |_,[],n=>n
 |k,t::ts,n=>restRGo i (k+1) ts (if k=i then n else wr (n+(endR t.1 t.2).1))
def leftR (x:List Int)(k rhs rest:Int):List Int:=x.filter fun v=>decide (wr (k*v)≤wr (rhs-rest))
def mostRAt (d:Doms)(vars coefs:List Int)(rhs:Int)(i:Nat):List (Int×Int):=pack (leftR (vals (domAt d (vars.getD i 0))) (coefs.getD i 0) rhs (restRGo i 0 (termsOf d vars coefs) 0))
def mostRd (d:Doms)(vars coefs:List Int)(rhs:Int):Nat→Doms
 |0=>d
 |n+1=>(mostRd d vars coefs rhs n).set (vars.getD n 0).toNat (mostRAt d vars coefs rhs n)
theorem mostRd_len (d:Doms)(vars coefs:List Int)(rhs:Int): ∀n,(mostRd d vars coefs rhs n).length=d.length
 |0=>rfl
 |n+1=>by simp[mostRd,mostRd_len d vars coefs rhs n]
theorem getD_at {l:List Int}{i:Nat}(h:i<l.length):l.getD i 0=l[i]:=by simp[List.getD_eq_getElem?_getD,List.getElem?_eq_getElem h]
theorem rmost_spec (d:Doms)(vars coefs:List Int)(rhs:Int)(h:SumIn d vars coefs):
  Spec Tryz.prog 87 false [doms d,ints vars,ints coefs,.int .i64 rhs] [.own 45 1 ((mostRd d vars coefs rhs vars.length).map cD)]:=by
 refine Spec.body Tryz.func87 rfl rfl rfl fun w0 Z0=> ?_
 obtain⟨hlen,hvl,hvin,hck,hdom,hdl⟩:=h
 repeat(refine .A ?_;conv=>whnf)
 refine .C (lists_spec d hdl (fun x hx=>(hdom x hx).2.2)) ?_
 repeat(refine .A ?_;conv=>whnf)
 refine T.K (T.ind (fun i:Nat=>⟨[(0,.val false (doms d)),(1,.val false (ints vars)),(2,.val false (ints coefs)),(3,.val false (.int .i64 rhs)),(9,.ref 0),(10,.val true (.int .i64 i))],[(0,some (.sl 45 1 true ((mostRd d vars coefs rhs i).map cD)))],1⟩) (fun i=>i≤vars.length) (fun i=>vars.length-i) 0 (by simp) (fun _ _ h=>h) ?_)
 rintro i hil ih
 repeat(refine .A ?_;conv=>whnf)
 refine T.cd rfl (fun h1=> ?_) (fun h1=> ?_)
 ·have h1:i<vars.length:=by simpa using h1
  have h2:i<coefs.length:=by omega
  have hv:=hvin _ (List.getElem_mem h1)
  have hx:=hdom _ (domAt_mem hv.2)
  have hrow:(d.map cD)[vars[i].toNat]? =some (cD (domAt d vars[i])):=by simp[domAt_some hv.2]
  have hat:mostRAt d vars coefs rhs i=pack (leftR (vals (domAt d vars[i])) coefs[i] rhs (restRGo i 0 (termsOf d vars coefs) 0)):=by
   unfold mostRAt
   rw[getD_at h1,getD_at h2]
  have hnext:mostRd d vars coefs rhs (i+1)=(mostRd d vars coefs rhs i).set vars[i].toNat (mostRAt d vars coefs rhs i):=by
   rw[mostRd,getD_at h1]
  repeat(refine .A ?_;conv=>whnf)
  refine T.K (T.ind (fun s:Nat×Int=>⟨[(0,.val false (doms d)),(1,.val false (ints vars)),(2,.val false (ints coefs)),(3,.val false (.int .i64 rhs)),(9,.ref 0),(10,.val true (.int .i64 i)),(11,.val true (.int .i64 s.2)),(12,.val true (.int .i64 s.1))],[(0,some (.sl 45 1 true ((mostRd d vars coefs rhs i).map cD)))],1⟩)
   (fun s=>s.1≤vars.length∧restRGo i s.1 ((termsOf d vars coefs).drop s.1) s.2=restRGo i 0 (termsOf d vars coefs) 0) (fun s=>vars.length-s.1) (0,0) ⟨by simp,rfl⟩ (fun _ _ h=>h) ?_)
  rintro⟨k,n⟩ ⟨hkl,hn⟩ ih2
  simp only at hkl hn
  dsimp only
  repeat(refine .A ?_;conv=>whnf)
  refine T.cd rfl (fun h3=> ?_) (fun h3=> ?_)
  ·have h3:k<vars.length:=by simpa using h3
   have h4:k<coefs.length:=by omega
   have hvk:=hvin _ (List.getElem_mem h3)
   have hxk:=hdom _ (domAt_mem hvk.2)
   have hrowk:(d.map cD)[vars[k].toNat]? =some (cD (domAt d vars[k])):=by simp[domAt_some hvk.2]
   rw[terms_cons h3 h4,restRGo]at hn
   repeat(refine .A ?_;conv=>whnf)
   refine .I (r:=cI vars[k]) (row_i h3) ?_
   repeat(refine .A ?_;conv=>whnf)
   refine J.i rfl rfl rfl rfl rfl rfl rfl rfl rfl (r:=cD (domAt d vars[k])) hvk.1 hrowk rfl ?_
   repeat(refine .A ?_;conv=>whnf)
   refine .I (r:=cI coefs[k]) (row_i h4) ?_
   repeat(refine .A ?_;conv=>whnf)
   refine J.cc rfl rfl rfl rfl rfl (rend_spec _ coefs[k] hxk) rfl rfl ?_
   generalize endR (domAt d vars[k]) coefs[k]=e1 at*
   repeat(refine .A ?_;conv=>whnf)
   refine T.cd rfl (fun h5=> ?_) (fun h5=> ?_)
   ·have h5: ¬k=i:=by intro e;exact h5 (by rw[e])
    rw[if_neg h5]at hn
    repeat(refine .A ?_;conv=>whnf)
    rw[wrap1 (l:=vars.length) (by omega) (by omega)]
    exact T.K (ih2 (k+1,wr (n+e1.1)) ⟨by simp only;omega,hn⟩ (by simp only;omega))
   ·have h5:k=i:=by
     have h5: ¬((k:Int)≠i):=h5
     omega
    rw[if_pos h5]at hn
    repeat(refine .A ?_;conv=>whnf)
    rw[wrap1 (l:=vars.length) (by omega) (by omega)]
    exact T.K (ih2 (k+1,n) ⟨by simp only;omega,hn⟩ (by simp only;omega))
  ·have h3:k=vars.length:=by simp at h3;omega
   subst h3
   rw[terms_end hlen,restRGo]at hn
   rw[←hn]at hat
   clear ih2
   have hvx:=values_spec (domAt d vars[i]) hx.1 (by have:=hx.2.1;omega) hx.2.2
   have hvin2:=vals_in hx.1
   have hvl2:=hx.2.1
   generalize vals (domAt d vars[i])=l at*
   repeat(refine .A ?_;conv=>whnf)
   refine .I (r:=cI vars[i]) (row_i h1) ?_
   repeat(refine .A ?_;conv=>whnf)
   refine J.i rfl rfl rfl rfl rfl rfl rfl rfl rfl (r:=cD (domAt d vars[i])) hv.1 hrow rfl ?_
   repeat(refine .A ?_;conv=>whnf)
   refine .C hvx ?_
   refine .O ?_
   repeat(refine .A ?_;conv=>whnf)
   refine T.K (T.ind (fun k:Nat=>⟨[(0,.val false (doms d)),(1,.val false (ints vars)),(2,.val false (ints coefs)),(3,.val false (.int .i64 rhs)),(9,.ref 0),(10,.val true (.int .i64 i)),(11,.val true (.int .i64 n)),(16,.ref 1),(17,.ref 2),(18,.val true (.int .i64 k))],[(0,some (.sl 45 1 true ((mostRd d vars coefs rhs i).map cD))),(1,some (.sl 3 1 true (l.map cI))),(2,some (.sl 3 1 true ((leftR (l.take k) coefs[i] rhs n).map cI)))],3⟩)
    (fun k=>k≤l.length) (fun k=>l.length-k) 0 (by simp) (fun _ _ h=>h) ?_)
   rintro k hk ih3
   repeat(refine .A ?_;conv=>whnf)
   refine T.cd rfl (fun h3=> ?_) (fun h3=> ?_)
   ·have h3:k<l.length:=by simpa using h3
    have hfl:(leftR (l.take k) coefs[i] rhs n).length≤k:=by
     unfold leftR
     refine Nat.le_trans (List.length_filter_le _ _) ?_
     simp;omega
    have e:leftR (l.take (k+1)) coefs[i] rhs n=leftR (l.take k) coefs[i] rhs n++if wr (coefs[i]*l[k])≤wr (rhs-n)then [l[k]]else []:=by
     unfold leftR
     rw[List.take_succ_eq_append_getElem h3,List.filter_append]
     congr 1
     by_cases hc:wr (coefs[i]*l[k])≤wr (rhs-n)
     ·simp[hc]
     ·simp[hc]
    repeat(refine .A ?_;conv=>whnf)
    refine .I (r:=cI coefs[i]) (row_i h2) ?_
    repeat(refine .A ?_;conv=>whnf)
    refine J.io rfl rfl rfl rfl rfl rfl rfl rfl rfl (by omega) (by simpa using h3) rfl ?_
    refine J.lo rfl rfl rfl rfl rfl rfl (r:=cI l[k]) (row_i h3) rfl ?_
    repeat(refine .A ?_;conv=>whnf)
    refine T.cd rfl (fun h4=> ?_) (fun h4=> ?_)
    ·rw[if_pos h4]at e
     repeat(refine .A ?_;conv=>whnf)
     refine J.io rfl rfl rfl rfl rfl rfl rfl rfl rfl (by omega) (by simpa using h3) rfl ?_
     refine J.lo rfl rfl rfl rfl rfl rfl (r:=cI l[k]) (row_i h3) rfl ?_
     repeat(refine .A ?_;conv=>whnf)
     refine .V ?_
     refine J.aI rfl rfl rfl rfl rfl rfl rfl rfl rfl rfl rfl rfl rfl rfl rfl rfl rfl rfl rfl (by omega) ?_
     repeat(refine .A ?_;conv=>whnf)
     rw[wrap1 (l:=l.length) (by omega) (by omega),←e]
     exact T.K (ih3 (k+1) (by omega) (by omega))
    ·rw[if_neg h4,List.append_nil]at e
     repeat(refine .A ?_;conv=>whnf)
     rw[wrap1 (l:=l.length) (by omega) (by omega),←e]
     exact T.K (ih3 (k+1) (by omega) (by omega))
   ·have h3:k=l.length:=by simp at h3;omega
    subst h3
    rw[List.take_length]
    have hpk:=(pack_spec (leftR l coefs[i] rhs n) (fun v hv=>by
     have:=hvin2 v (List.mem_filter.1 hv).1
     omega) (by
     have:(leftR l coefs[i] rhs n).length≤l.length:=List.length_filter_le _ _
     omega)).frz
    rw[←hat]at*
    have hdl2:=mostRd_len d vars coefs rhs i
    repeat(refine .N ?_;conv=>whnf)
    refine T.rdw 9 rfl (by kernel_rfl) rfl ?_
    repeat' first|refine J.e rfl rfl rfl rfl ?_|refine J.skip rfl rfl rfl ?_|refine J.bx rfl rfl rfl rfl rfl rfl ?_
    refine .I (r:=cI vars[i]) (row_i h1) ?_
    repeat' first|refine J.e rfl rfl rfl rfl ?_|refine J.skip rfl rfl rfl ?_|refine J.bx rfl rfl rfl rfl rfl rfl ?_
    refine .C hpk ?_
    refine J.io rfl rfl rfl rfl rfl rfl rfl rfl rfl hv.1 (by simp[hdl2];omega) rfl ?_
    refine J.wd1 rfl rfl rfl rfl rfl rfl rfl rfl rfl rfl rfl (z:=mostRAt d vars coefs rhs i) (fun _=>rfl) (by omega) ?_
    refine J.nil ?_
    refine⟨rfl,?_⟩
    repeat(refine .A ?_;conv=>whnf)
    rw[wrap1 (l:=vars.length) (by omega) (by omega),←hnext]
    exact T.K (ih (i+1) (by omega) (by omega))
 ·have h1:i=vars.length:=by simp at h1;omega
  subst h1
  repeat(refine .A ?_;conv=>whnf)
  exact⟨_,.o rfl rfl rfl (fun _=> .inl rfl) (by simp) .nil⟩
end Go.Proofs.YtlcobmehnaeebaaGreat
