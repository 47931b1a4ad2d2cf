/- The texts PvH, ShD, ShC, FvB, PvE, PvF, FvK, PvG, FvL, FvM, PuT, PvD, FvA, FvC, PvC, FvD, FvE, LiH, FvF, PuE, FvG, FvN, FvI, FvJ, FvO, FvP, FvS of the workplace, joined. -/
import Derived.Test.YtopcjbahjjhdmaaGreatB7
import Derived.Ground.SlsfProg
import Derived.Shelf.SlSortCmp.WholeK
import Derived.Test.YtopcjbahjjhdmaaGreatProg
import Derived.Shelf.Slices.CompactI
import Derived.Shelf.SlicesE.DeleteFunc
import Derived.Shelf.SlSortCmp.NoneTotal
namespace Go.Proofs.YtopcjbahjjhdmaaGreat
open Go Go.RowKit
set_option linter.unusedVariables false
set_option linter.unusedSimpArgs false
def bA:List Nat→Nat
 | []=>1
 |n::l=>n*bA l
theorem du: ∀(l m:List Nat),bA (l++m)=bA l*bA m
 | [],m=>by simp[bA]
 |n::l,m=>by rw[Dq,bA,bA,du l m,GF]
theorem lT: ∀{l:List Nat},(∀x∈l,1≤x)→1≤bA l
 | [],_=>CS _
 |n::l,h=>Nat.mul_pos (h n (.head _)) (lT fun x hx=>h x (.tail _ hx))
def prodD (d:aa):Nat:=bA (d.map fun x=>(vals x).length)
theorem om (d:aa)(x:List (Int×Int)):prodD (d++[x])=prodD d*(vals x).length:=by
 unfold prodD;rw[DF,du];simp[bA]
theorem mV (D:aa): ∀n,n≤D.length→(bi D n).length=prodD (D.take n)
 |0,_=>rfl
 |n+1,hn=>by
  have ih:=mV D n (by omega)
  have: ∀(l:List (List Int)) (v:List Int),(l.flatMap fun a=>v.map fun v=>a++[v]).length=l.length*v.length:=by
   intro l v
   induction l with
   |nil=>simp
   |cons a l ih=>rw[EA,CW,ih,C6,D0,Eb];omega
  rw[bi,this,ih,C7 (by omega),om,C0,C1 (by omega)]
  rfl
theorem zK {a b:aa}(hl:a.length=b.length)(h: ∀(i:Nat) x y,a[i]? =some x→b[i]? =some y→(vals x).length≤(vals y).length):prodD a≤prodD b:=by
 induction a generalizing b with
 |nil=>
  cases b with
  |nil=>exact CS _
  |cons y b=>simp at hl
 |cons x a ih=>
  cases b with
  |nil=>simp at hl
  |cons y b=>exact FE (h 0 x y rfl rfl) (ih (by simpa using hl) fun i u v hu hv=>h (i+1) u v hu hv)
theorem GoodD.one {n:Nat}{d:aa}(h:GoodD n d): ∀x∈d,1≤(vals x).length:=fun x hx=>by
 have hok:=(h.few.fine x hx).ok
 have:vals x≠[]:=fun e=>h.some' ((e6 hok).1 e▸hx)
 exact List.length_pos_iff.2 this
theorem ya {n:Nat}{a b:aa}(ha:GoodD n a)(hb:GoodD n b)(h:leD a b):prodD a≤prodD b:=by
 refine zK (ha.len.trans hb.len.symm) fun i x y hx hy=> ?_
 have hi:=(List.getElem?_eq_some_iff.1 hx).1
 have hj:=(List.getElem?_eq_some_iff.1 hy).1
 have h1:=(ha.few.fine x (C4 hx)).ok
 refine bV (aF h1) fun v hv=> ?_
 have:=h.2 (i:Int) v (by omega) (by rw[pc hi,(List.getElem?_eq_some_iff.1 hx).2];exact hv)
 rwa[pc hj,(List.getElem?_eq_some_iff.1 hy).2]at this
end Go.Proofs.YtopcjbahjjhdmaaGreat
namespace Go.Proofs.YtopcjbahjjhdmaaGreat
open Go Go.Shelf Go.RowKit
def pA:Go.Shelf.Ren:=⟨fun|6=>228|15=>124|14=>242|28=>165|29=>166|20=>244|21=>245|22=>246|23=>247|24=>248|25=>249|26=>250|27=>251|46=>252|47=>216|48=>217|49=>253|50=>254|57=>255|n=>n,fun|22=>54|24=>53|25=>215|3=>3|39=>146|0=>0|53=>173|55=>159|4=>4|46=>166|45=>165|50=>115|5=>5|9=>9|66=>204|70=>208|76=>221|77=>222|n=>n,fun|n=>n⟩
theorem qo:Go.Proofs.SlLaysF0.n6 Tryz.prog pA:= {
 mixed:=by kernel_rfl
 f6:=⟨Tryz.f228.name,by decide,Tryz.func228.trans (congrArg some (by kernel_rfl))⟩
 f14:=⟨Tryz.f242.name,by decide,Tryz.func242.trans (congrArg some (by kernel_rfl))⟩
 f15:=Tryz.func124.trans (congrArg some (by kernel_rfl))
 f20:=⟨Tryz.f244.name,by decide,Tryz.func244.trans (congrArg some (by kernel_rfl))⟩
 f21:=⟨Tryz.f245.name,by decide,Tryz.func245.trans (congrArg some (by kernel_rfl))⟩
 f22:=⟨Tryz.f246.name,by decide,Tryz.func246.trans (congrArg some (by kernel_rfl))⟩
 f23:=⟨Tryz.f247.name,by decide,Tryz.func247.trans (congrArg some (by kernel_rfl))⟩
 f24:=⟨Tryz.f248.name,by decide,Tryz.func248.trans (congrArg some (by kernel_rfl))⟩
 f25:=⟨Tryz.f249.name,by decide,Tryz.func249.trans (congrArg some (by kernel_rfl))⟩
 f26:=⟨Tryz.f250.name,by decide,Tryz.func250.trans (congrArg some (by kernel_rfl))⟩
 f27:=⟨Tryz.f251.name,by decide,Tryz.func251.trans (congrArg some (by kernel_rfl))⟩
 f28:=Tryz.func165.trans (congrArg some (by kernel_rfl))
 f29:=Tryz.func166.trans (congrArg some (by kernel_rfl))
 f46:=⟨Tryz.f252.name,by decide,Tryz.func252.trans (congrArg some (by kernel_rfl))⟩
 f47:=Tryz.func216.trans (congrArg some (by kernel_rfl))
 f48:=Tryz.func217.trans (congrArg some (by kernel_rfl))
 f49:=⟨Tryz.f253.name,by decide,Tryz.func253.trans (congrArg some (by kernel_rfl))⟩
 f50:=⟨Tryz.f254.name,by decide,Tryz.func254.trans (congrArg some (by kernel_rfl))⟩
 f57:=⟨Tryz.f255.name,by decide,Tryz.func255.trans (congrArg some (by kernel_rfl))⟩
 t0:=Tryz.underlying0
 a0:=Tryz.isAgg0
 z0:=Tryz.sizeOf0
 v0:=Tryz.zeroValue0
 t3:=Tryz.underlying3
 a3:=Tryz.isAgg3
 z3:=Tryz.sizeOf3
 v3:=Tryz.zeroValue3
 t4:=Tryz.underlying4
 a4:=Tryz.isAgg4
 z4:=Tryz.sizeOf4
 v4:=Tryz.zeroValue4
 t5:=Tryz.underlying5
 a5:=Tryz.isAgg5
 z5:=Tryz.sizeOf5
 v5:=Tryz.zeroValue5
 t9:=Tryz.underlying9
 a9:=Tryz.isAgg9
 z9:=Tryz.sizeOf9
 v9:=Tryz.zeroValue9
 t22:=Tryz.underlying54
 a22:=Tryz.isAgg54
 z22:=Tryz.sizeOf54
 v22:=Tryz.zeroValue54
 t25:=Tryz.underlying215
 a25:=Tryz.isAgg215
 z25:=Tryz.sizeOf215
 v25:=Tryz.zeroValue215
 t39:=Tryz.underlying146
 a39:=Tryz.isAgg146
 z39:=Tryz.sizeOf146
 v39:=Tryz.zeroValue146
 t45:=Tryz.underlying165
 a45:=Tryz.isAgg165
 z45:=Tryz.sizeOf165
 v45:=Tryz.zeroValue165
 t46:=Tryz.underlying166
 a46:=Tryz.isAgg166
 z46:=Tryz.sizeOf166
 v46:=Tryz.zeroValue166
 t50:=Tryz.underlying115
 a50:=Tryz.isAgg115
 z50:=Tryz.sizeOf115
 v50:=Tryz.zeroValue115
 t53:=Tryz.underlying173
 a53:=Tryz.isAgg173
 z53:=Tryz.sizeOf173
 v53:=Tryz.zeroValue173
 t55:=Tryz.underlying159
 a55:=Tryz.isAgg159
 z55:=Tryz.sizeOf159
 v55:=Tryz.zeroValue159
 t66:=Tryz.underlying204
 a66:=Tryz.isAgg204
 z66:=Tryz.sizeOf204
 v66:=Tryz.zeroValue204
 t70:=Tryz.underlying208
 a70:=Tryz.isAgg208
 z70:=Tryz.sizeOf208
 v70:=Tryz.zeroValue208
 t76:=Tryz.underlying221
 a76:=Tryz.isAgg221
 z76:=Tryz.sizeOf221
 v76:=Tryz.zeroValue221
 t77:=Tryz.underlying222
 a77:=Tryz.isAgg222
 z77:=Tryz.sizeOf222
 v77:=Tryz.zeroValue222 }
end Go.Proofs.YtopcjbahjjhdmaaGreat
namespace Go.Proofs.YtopcjbahjjhdmaaGreat
open Go Go.Shelf Go.RowKit
def l7:Go.Shelf.Ren:=⟨fun|20=>87|n=>n,fun|22=>24|3=>3|4=>4|0=>0|n=>n,fun|n=>n⟩
theorem kZ:Go.Proofs.Lays2.n20 Tryz.prog l7:= {
 mixed:=by kernel_rfl
 f20:=Tryz.func87.trans (congrArg some (by kernel_rfl))
 t0:=Tryz.underlying0
 a0:=Tryz.isAgg0
 z0:=Tryz.sizeOf0
 v0:=Tryz.zeroValue0
 t3:=Tryz.underlying3
 a3:=Tryz.isAgg3
 z3:=Tryz.sizeOf3
 v3:=Tryz.zeroValue3
 t4:=Tryz.underlying4
 a4:=Tryz.isAgg4
 z4:=Tryz.sizeOf4
 v4:=Tryz.zeroValue4
 t22:=Tryz.underlying24
 a22:=Tryz.isAgg24
 z22:=Tryz.sizeOf24
 v22:=Tryz.zeroValue24
 i3:=by kernel_rfl }
open Go.RowKit Go.Lib Go.Sort in
theorem iK (blk off cap:Nat)(zs:List Int)(w:World)(hH:Holds (Value.int .i64) w blk off zs.toArray)(hsz:zs.length≤9223372036854775807)(hcap:zs.length≤cap):
  Calls Tryz.prog 87 #[.slice (some ⟨blk,off,none⟩) zs.length cap] w fun e w'=>e= .returned (.slice (some ⟨blk,off,none⟩) (Lib.compact zs).length cap)∧∃q,w'=putRow (Value.int .i64) (Sort.ahead w q) blk off (Lib.compact zs++List.replicate (zs.length-(Lib.compact zs).length) 0).toArray:=Any.slices_Compact_int kZ blk off cap zs w hH hsz hcap
open Go.RowKit Go.Lib Go.Sort in
theorem fj (a:Option Addr)(cap:Nat)(w:World):
  Calls Tryz.prog 87 #[.slice a 0 cap] w fun e w'=>e= .returned (.slice a 0 cap)∧w'=w:=Any.slices_Compact_int_empty kZ a cap w
end Go.Proofs.YtopcjbahjjhdmaaGreat
namespace Go.Proofs.YtopcjbahjjhdmaaGreat
open Go Go.RowKit Go.Sort
set_option linter.unusedVariables false
set_option linter.unusedSimpArgs false
set_option maxRecDepth 8000
theorem zH {w:World}{g cap n:Nat}{e:TypeId}{cur:Array Value}{ts:List Int}(k:Nat)(hb:w.heap[g]? =some (.cells cur e (0,0)))(hk:k≤ts.length)(hcap:ts.length≤cap)(hmax:cap≤maxLen)(hsz:cur.size=cap*1){w':World}(hw:w'=putRow (Value.int .i64) (Sort.ahead w n) g 0 ts.toArray):
  w'.os=w.os∧w'.tape=w.tape∧w'.output=w.output∧w.heap.size≤w'.heap.size∧(∀b,b<w.heap.size→b≠g→w'.heap[b]? =w.heap[b]?)∧w'.ownsRow 0 e 1 (.slice (some ⟨g,0,none⟩) k cap) k ((ts.take k).map (Value.int .i64)):=by
 subst hw
 refine⟨rfl,rfl,rfl,by simp,fun b hb hne=> ?_,?_⟩
 ·simp[putRow,mapBlock,Sort.ahead,F3,Ne.symm hne]
 ·have hh:(putRow (Value.int .i64) (Sort.ahead w n) g 0 ts.toArray).heap[g]? =some (.cells (Go.Sort.putCells (Value.int .i64) 0 ts.toArray cur) e (0,0)):=by
   simp[putRow,mapBlock,Sort.ahead,F3,hb,onCells]
  have ht:=take_putCellsI cur ts (by omega)
  refine⟨by simp;omega,.inr ⟨g,cap,_,rfl,DC _,hh,by omega,hmax,by simp[Go.Sort.putCells,hsz],?_⟩⟩
  rw[FQ,F0,←ht,F8,DX hk]
theorem zL {f:FuncId} {fn:Func} {us:List Value} {cs:List Own} (l:List Int) (args:List PV) (l':List Int) (hl:l.length*8≤140737488355328) (hll:l'.length≤l.length) (hf:Tryz.prog.funcs[f]? =some fn) (hb:fn.body.isSome=true) (hn:(fn.name== "runtime.NumGoroutine")=false)
  (h0:l=[]→∀(w:World) (vs:List Value),L2 (Rep w fun _=>True) vs args→Calls Tryz.prog f (.slice none 0 0::vs).toArray w fun e w'=>e= .returned (.slice none 0 0)∧w'=w)
  (h1: ∀(g cap:Nat) (w:World) (vs:List Value),Holds (Value.int .i64) w g 0 l.toArray→g<w.heap.size→l.length≤cap→L2 (ar w fun _ b=>b≠g∧Off us b) us cs→gu us→(∀u g',u∈us→VB u g'→g'≠g)→L2 (Rep w fun b=>b≠g∧Off us b) vs args→
   Calls Tryz.prog f (.slice (some ⟨g,0,none⟩) l.length cap::vs).toArray w fun e w'=>e= .returned (.slice (some ⟨g,0,none⟩) l'.length cap)∧∃q,w'=putRow (Value.int .i64) (Sort.ahead w q) g 0 (l'++List.replicate (l.length-l'.length) 0).toArray):
  SpecP Tryz.prog f us cs 3 1 (l.map cI) args (l'.map cI):=by
 refine⟨⟨fn,hf,hb,hn⟩,fun w Z1 v0 vs ho hz hus hap hdis hvs=> ?_⟩
 obtain⟨xs,hrow,hx,_,_⟩:=ho
 rw[show(l.map cI).flatten=l.map (PV.int .i64)from qO _ l]at hx
 obtain rfl:=oT hx
 rw[C6]at hrow
 obtain⟨hln,hrow⟩:=hrow
 have hfin: ∀(w':World) (v:Value),w'.ownsRow 0 3 1 v l'.length (l'.map (Value.int .i64))→ar w' (fun _ b=>Z1 b∧¬VB v b) v (.sl 3 1 true (l'.map cI)):=fun w' v h=>by
  refine⟨l'.map (Value.int .i64),by rw[C6];exact h,?_,fun r hr=>by obtain⟨x,_,rfl⟩:=List.mem_map.1 hr;rfl,fun r hr p hp=>by obtain⟨x,_,rfl⟩:=List.mem_map.1 hr;simp[cI]at hp;rw[hp];rfl⟩
  rw[show(l'.map cI).flatten=l'.map (PV.int .i64)from qO _ _]
  exact lR _
 rcases hrow with ⟨rfl,hnil⟩|⟨g,cap,cur,rfl,_,hb,hcap,hmax,hsz,htk⟩
 ·obtain rfl:l=[]:=by simpa using hnil
  obtain rfl:l'=[]:=by cases l' with|nil=>rfl|cons _ _=>simp at hll
  refine(h0 rfl w vs (hvs.imp fun _ _ h=>h.mono fun _ _ _=>⟨trivial,rfl⟩)).mono ?_
  rintro e w' ⟨rfl,rfl⟩
  exact⟨_,rfl,rfl,rfl,rfl,CS _,fun _ _ _=>rfl,hfin _ _ ⟨rfl,.inl ⟨rfl,rfl⟩⟩,fun g hg=> .inl hg⟩
 ·have hg:g<w.heap.size:=(Array.getElem?_eq_some_iff.1 hb).1
  have hvb: ∀b,VB (.slice (some ⟨g,0,none⟩) l.length cap) b↔b=g:=fun b=>by simp[VB,aw];exact eq_comm
  rw[FQ]at htk
  have hZ: ∀b,(¬VB (.slice (some ⟨g,0,none⟩) l.length cap) b∧Off us b)→b≠g∧Off us b:=fun b h=>⟨fun e=>h.1 ((hvb b).2 e),h.2⟩
  refine(h1 g cap w vs (holds_of_blockI hb htk) hg (by simpa using hcap) (hus.imp fun u c h=>ot h fun b hb=>hZ b hb) hap (fun u g' hu hv e=>hdis u g' hu hv ((hvb g').2 e)) (hvs.imp fun _ _ h=>h.mono fun b hb _=>⟨hZ b hb,rfl⟩)).mono ?_
  rintro e w' ⟨rfl,q,hw⟩
  have htl:(l'++List.replicate (l.length-l'.length) (0:Int)).length=l.length:=by simp;omega
  obtain⟨a1,a2,a3,a4,a5,a6⟩:=zH (ts:=l'++List.replicate (l.length-l'.length) 0) l'.length hb (by omega) (by rw[htl];simpa using hcap) hmax hsz hw
  rw[FS]at a6
  exact⟨_,rfl,a1,a2,a3,a4,fun b hb hn=>a5 b hb fun e=>hn ((hvb b).2 e),hfin _ _ a6,fun g' hg'=> .inl ((hvb g').2 (by simpa[VB,aw,eq_comm]using hg'))⟩
theorem iv (l:List Int)(hl:l.length*8≤140737488355328):SpecP Tryz.prog 87 [] [] 3 1 (l.map cI) [] ((Lib.compact l).map cI):=by
 have hle:(Lib.compact l).length≤l.length:=by
  unfold Lib.compact Lib.compactUpTo
  rw[C6]
  exact D3 (DN _ _) (by simp)
 refine zL l [] (Lib.compact l) hl hle Tryz.func87 rfl rfl (fun h w vs hvs=> ?_) (fun g cap w vs hH hg hc _ _ _ hvs=> ?_)
 ·cases hvs
  exact fj none 0 w
 ·cases hvs
  exact iK g 0 cap l w hH (by omega) hc
theorem wz {l:List Int}(h:l.Pairwise (· ≤ ·)):Up (Lib.compact l)∧∀x,x∈Lib.compact l↔x∈l:=by
 have hget: ∀j,j<l.length→l.toArray[j]! =l.getD j 0:=fun j hj=>by
  rw[C0,C1 hj]
  simp[hj]
 have hle: ∀i j,i≤j→j<l.length→l.getD i 0≤l.getD j 0:=fun i j hij hj=>by
  rw[C0,C0,C1 hj,C1 (by omega)]
  by_cases e:i=j
  ·subst e;exact DO _
  ·exact List.pairwise_iff_getElem.1 h i j (by omega) hj (by omega)
 have key: ∀m,m≤l.length→Up (Lib.compactUpTo l.toArray m)∧(∀x,x∈Lib.compactUpTo l.toArray m↔∃j,j<m∧l.getD j 0=x):=by
  intro m
  induction m with
  |zero=>intro _;exact⟨by simp[Lib.compactUpTo,Up],by simp[Lib.compactUpTo]⟩
  |succ m ih=>
   intro hm
   obtain⟨h1,h2⟩:=ih (by omega)
   rw[Lib.compactUpTo_succ]
   by_cases hk:Lib.keeps l.toArray m=true
   ·rw[if_pos hk,hget m (by omega)]
    refine⟨List.pairwise_append.2 ⟨h1,Dp _ _,fun x hx y hy=> ?_⟩,fun x=> ?_⟩
    ·obtain⟨j,hj,rfl⟩:=(h2 x).1 hx
     rw[List.mem_singleton.1 hy]
     have e1:=hle j (m-1) (by omega) (by omega)
     have e2:=hle (m-1) m (by omega) (by omega)
     simp only[Lib.keeps,decide_eq_true_eq]at hk
     have hne:l.toArray[m]! ≠l.toArray[m-1]! :=hk.resolve_left (by omega)
     rw[hget m (by omega),hget (m-1) (by omega)]at hne
     omega
    ·rw[Dl,h2,DL]
     constructor
     ·rintro(⟨j,hj,e⟩|rfl)
      ·exact⟨j,by omega,e⟩
      ·exact⟨m,by omega,rfl⟩
     ·rintro⟨j,hj,e⟩
      by_cases hjm:j=m
      ·subst hjm;exact .inr e.symm
      ·exact .inl ⟨j,by omega,e⟩
   ·rw[if_neg hk,Dv]
    refine⟨h1,fun x=> ?_⟩
    rw[h2]
    constructor
    ·rintro⟨j,hj,e⟩;exact⟨j,by omega,e⟩
    ·rintro⟨j,hj,e⟩
     by_cases hjm:j=m
     ·subst hjm
      simp only[Lib.keeps,decide_eq_true_eq,not_or,ne_eq,Classical.not_not]at hk
      have:=hk.2
      rw[hget j (by omega),hget (j-1) (by omega)]at this
      exact⟨j-1,by omega,by rw[←this];exact e⟩
     ·exact⟨j,by omega,e⟩
 obtain⟨h1,h2⟩:=key l.length (CS _)
 refine⟨h1,fun x=> ?_⟩
 rw[show Lib.compact l=Lib.compactUpTo l.toArray l.length from rfl,h2]
 constructor
 ·rintro⟨j,hj,rfl⟩
  rw[C0,C1 hj]
  exact C5 hj
 ·intro hx
  obtain⟨j,hj,rfl⟩:=EC hx
  exact⟨j,hj,by rw[C0,C1 hj];rfl⟩
theorem iw (l:List Int):Lib.compact (cP l)=aV l:=by
 have hs:(cP l).Pairwise (· ≤ ·):=by
  have:=G8 (le:=fun x y:Int=>decide (x≤y)) (fun a b c h1 h2=>by simp at h1 h2⊢;omega) (fun a b=>by simp;omega) l
  exact this.imp fun h=>by simpa using h
 obtain⟨h1,h2⟩:=wz hs
 refine dF h1 (bZ l) fun x=> ?_
 rw[h2,bJ]
 exact(Fm l _).mem_iff
theorem vR (c:Con)(hc:ConB c):Spec Tryz.prog 132 false [.agg (cC c)] [.own 3 1 ((usesR c).map cI)]:=by
 refine Spec.body Tryz.func132 rfl rfl rfl fun w0 Z0=> ?_
 obtain⟨h1,h2,h3,h4⟩:=hc
 unfold usesR
 have hll:((if c.kind=4 then c.vars++[c.b]else c.vars):List Int).length*8≤140737488355328:=by
  split
  ·simp;omega
  ·omega
 have fin: ∀(l:List Int),l.length*8≤140737488355328→(cP l).length*8≤140737488355328:=fun l h=>by
  rw[show(cP l).length=l.length from F2 ..];exact h
 refine .B ?_
 refine .C (dR c.vars (by omega)) ?_
 refine .B ?_
 refine T.cd rfl (fun hk=> ?_) (fun hk=> ?_)
 ·have hk:c.kind=4:=hk
  rw[if_pos hk]at hll⊢
  have hf:=fin _ hll
  refine .B ?_
  refine .V ?_
  refine J.aI rfl rfl rfl rfl rfl rfl rfl rfl rfl rfl rfl rfl rfl rfl rfl rfl rfl rfl rfl (by omega) ?_
  refine .B ?_
  refine J.cm rfl rfl rfl rfl rfl rfl rfl rfl rfl (jY (c.vars++[c.b]) hll) rfl rfl rfl ?_
  refine .B ?_
  refine J.cp (cs2:=[]) (qs:=[]) [] rfl rfl rfl rfl rfl rfl rfl rfl (iv _ hf) trivial rfl rfl rfl rfl rfl rfl ?_
  rw[iw]
  refine .B ?_
  exact⟨_,.o rfl rfl rfl (fun _=> .inl rfl) (by simp) .nil⟩
 ·have hk: ¬c.kind=4:=hk
  rw[if_neg hk]at hll⊢
  have hf:=fin _ hll
  refine .B ?_
  refine J.cm rfl rfl rfl rfl rfl rfl rfl rfl rfl (jY c.vars hll) rfl rfl rfl ?_
  refine .B ?_
  refine J.cp (cs2:=[]) (qs:=[]) [] rfl rfl rfl rfl rfl rfl rfl rfl (iv _ hf) trivial rfl rfl rfl rfl rfl rfl ?_
  rw[iw]
  refine .B ?_
  exact⟨_,.o rfl rfl rfl (fun _=> .inl rfl) (by simp) .nil⟩
end Go.Proofs.YtopcjbahjjhdmaaGreat
namespace Go.Proofs.YtopcjbahjjhdmaaGreat
open Go Go.RowKit
set_option linter.unusedVariables false
set_option linter.unusedSimpArgs false
def uI:Int→List Int→List Int
 |_,[]=>[]
 |x,y::l=>if y=x then uI x l else y::uI y l
theorem r5: ∀(l:List Int) (x:Int),(x::l).Pairwise (· ≤ ·)→Up (x::uI x l)∧∀z,z∈x::uI x l↔z∈x::l
 | [],x,_=>⟨Dp _ _,fun z=>Iff.rfl⟩
 |y::l,x,h=>by
  have h1:=List.pairwise_cons.1 h
  have hxy:=h1.1 y (.head _)
  rw[uI]
  by_cases e:y=x
  ·subst e
   rw[if_pos rfl]
   obtain⟨a,b⟩:=r5 l y h1.2
   refine⟨a,fun z=> ?_⟩
   rw[b z]
   simp
  ·rw[if_neg e]
   obtain⟨a,b⟩:=r5 l y h1.2
   refine⟨List.pairwise_cons.2 ⟨fun z hz=> ?_,a⟩,fun z=> ?_⟩
   ·rcases List.mem_cons.1 hz with rfl|hz
    ·omega
    ·have:=(List.pairwise_cons.1 a).1 z hz;omega
   ·rw[E4,b z,E4 (a:=z) (b:=x)]
theorem ji: ∀(l:List Int) (o:List (Int×Int)) (lo x:Int),(x::l).Pairwise (· ≤ ·)→l.foldl fY (o++[(lo,x)])=o++dM lo x (uI x l)
 | [],o,lo,x,_=>rfl
 |y::l,o,lo,x,h=>by
  have h1:=List.pairwise_cons.1 h
  have hxy:=h1.1 y (.head _)
  rw[CZ,gX,uI]
  by_cases e:y=x
  ·subst e
   rw[if_pos (DO _),if_pos rfl]
   exact ji l o lo y h1.2
  ·rw[if_neg (by omega),if_neg e,dM]
   by_cases e2:y=x+1
   ·rw[if_pos (by omega),if_pos e2]
    exact ji l o lo y h1.2
   ·rw[if_neg (by omega),if_neg e2,ji l (o++[(lo,x)]) y y h1.2,DD];rfl
theorem vh (l:List Int):(cP l).Pairwise (· ≤ ·):=by
 have:=G8 (le:=fun x y:Int=>decide (x≤y)) (fun a b c h1 h2=>by simp at h1 h2⊢;omega) (fun a b=>by simp;omega) l
 exact this.imp fun h=>by simpa using h
theorem vD (l:List Int):packG (cP l)=cZ (aV l):=by
 have hs:=vh l
 have hm: ∀z,z∈cP l↔z∈l:=fun z=>(Fm l _).mem_iff
 cases h:cP l with
 |nil=>
  have:aV l=[]:=List.eq_nil_iff_forall_not_mem.2 fun z hz=>by
   have:=(hm z).2 ((bJ z l).1 hz)
   rw[h]at this;cases this
  rw[this];rfl
 |cons x t=>
  rw[h]at hs
  obtain⟨a,b⟩:=r5 t x hs
  have e:aV l=x::uI x t:=dF (bZ l) a fun z=>by rw[bJ,b z,←h,hm]
  rw[e]
  show t.foldl fY (fY [] x)=_
  rw[p9]
  exact ji t [] x x hs
theorem ww {l:List Int}(hv: ∀v∈l,-1048576≤v∧v≤1048576)(hn:l.length≤4096):domOfP l=(cZ (aV l),0):=by
 have hv2: ∀v∈aV l,-1048576≤v∧v≤1048576:=fun v h=>hv v ((bJ v l).1 h)
 have hln:=e8 l
 have hf:Fine (cZ (aV l)):=j6 (bZ l) hv2 (by omega)
 unfold domOfP
 rw[vD,nT hf,bI (bZ l),if_pos (List.all_eq_true.2 fun v hm=>by simpa[aH]using hv v hm),if_neg (by omega)]
def kI (d:aa)(vars r:List Int):Bool:=(vars.zip r).all fun p=>hasV (domAt d p.1) p.2
def rowsP (d:aa)(c:Con):List (List Int):=c.rows.filter (kI d c.vars)
def gM (rows:List (List Int))(i:Nat):List Int:=rows.map fun r=>r.getD i 0
def gw (rows:List (List Int)):List Int→Nat→aa→aa
 | [],_,out=>out
 |v::vs,i,out=>gw rows vs (i+1) (out.set v.toNat (domOfP (gM rows i)).1)
def tabO (d:aa)(c:Con):Option aa:=if []∈d then none else if rowsP d c=[]then none else some (gw (rowsP d c) c.vars 0 d)
theorem pQ (rows:List (List Int)): ∀(vs:List Int) (i:Nat) (out:aa),(gw rows vs i out).length=out.length
 | [],_,_=>rfl
 |v::vs,i,out=>by rw[gw,pQ rows vs];simp
theorem sM (rows:List (List Int)): ∀(vs:List Int) (i:Nat) (out:aa),vs.Nodup→(∀v∈vs,0≤v∧v.toNat<out.length)→∀k:Nat,
  ((k:Int)∉vs→(gw rows vs i out)[k]? =out[k]?)∧∀j,vs[j]? =some (k:Int)→(gw rows vs i out)[k]? =some (domOfP (gM rows (i+j))).1
 | [],i,out,_,_,k=>⟨fun _=>rfl,fun j hj=>by simp at hj⟩
 |v::vs,i,out,hn,h0,k=>by
  have hn2:=List.nodup_cons.1 hn
  have hv:=h0 v (.head _)
  obtain⟨h1,h2⟩:=sM rows vs (i+1) (out.set v.toNat (domOfP (gM rows i)).1) hn2.2 (fun u hu=>by rw[DI];exact h0 u (.tail _ hu)) k
  rw[gw]
  refine⟨fun hk=> ?_,fun j hj=> ?_⟩
  ·have hne:v≠(k:Int):=fun e=>hk (by rw[e];exact .head _)
   rw[h1 fun h=>hk (.tail _ h),D2 (by omega)]
  ·cases j with
   |zero=>
    simp at hj
    rw[h1 (by rw[←hj];exact hn2.1)]
    have:v.toNat=k:=by omega
    rw[this,DH (by rw[←this];exact hv.2)];rfl
   |succ j=>
    rw[h2 j (by simpa using hj)]
    congr 4;omega
theorem rh {vars r:List Int}{p:Int→Int→Bool}(hl:r.length=vars.length):((vars.zip r).all fun q=>p q.1 q.2)=true↔∀(j:Nat) v,vars[j]? =some v→p v (r.getD j 0)=true:=by
 rw[DA]
 constructor
 ·intro h j v hj
  have hlt:=(List.getElem?_eq_some_iff.1 hj).1
  have hr:r[j]? =some (r.getD j 0):=by rw[C0,C1 (by omega)];rfl
  exact h (v,r.getD j 0) (C4 (i:=j) (List.getElem?_zip_eq_some.2 ⟨hj,hr⟩))
 ·rintro h ⟨v,x⟩ hm
  obtain⟨j,hj⟩:=C9 hm
  rw[En]at hj
  have:=h j v hj.1
  rw[C0,hj.2]at this
  exact this
theorem zj {n:Nat}{d:aa}{c:Con}(gd:GoodD n d)(hc:ConB c)(h:conR d c=0)(hk:c.kind=2):bK c d=tabO d c:=by
 obtain⟨_,hv,hr,hin⟩:=cS hc h
 have hu:usesR c=aV c.vars:=by unfold usesR;rw[if_neg (by omega)]
 have hrr:c.vars.Nodup∧(∀r∈c.rows,r.length=c.vars.length∧∀x∈r,-1048576≤x∧x≤1048576)∧c.rows.length≤1024:=by
  unfold rightR at hr
  rw[if_neg (by omega),if_neg (by omega),if_pos hk]at hr
  simp only[manyR,kH,CR,decide_eq_true_eq,DA]at hr
  refine⟨hr.1.2.2,fun r hrm=> ?_,hr.2.2⟩
  have:=hr.2.1 r hrm
  simp only[em,aH,CR,decide_eq_true_eq,DA]at this
  exact⟨this.1,fun x hx=>by have:=this.2 x hx;omega⟩
 obtain⟨hnod,hrow,hfew⟩:=hrr
 have hnd:(usesR c).Nodup:=dA (bZ _)
 have hmem: ∀u,u∈usesR c↔u∈c.vars:=fun u=>by rw[hu];exact bJ u _
 have hP: ∀f:Int→Int,holdsR c (eA d.length (usesR c) ((usesR c).map f) (usesR c).length)=true↔c.vars.map f∈c.rows:=fun f=>by
  have hpk:pickedR c.vars (eA d.length (usesR c) ((usesR c).map f) (usesR c).length)=c.vars.map f:=DS fun v hv=>lz f hin ((hmem v).2 hv)
  unfold holdsR
  rw[if_neg (by omega),if_neg (by omega),if_pos hk,hpk,EJ]
  constructor
  ·rintro⟨r,h1,h2⟩;rw[←of_decide_eq_true h2];exact h1
  ·exact fun h1=>⟨_,h1,decide_eq_true rfl⟩
 have hri: ∀r∈c.rows,kI d c.vars r=true↔∀(j:Nat) v,c.vars[j]? =some v→r.getD j 0∈vals (domAt d v):=fun r hrm=>by
  unfold kI
  rw[rh (p:=fun v x=>hasV (domAt d v) x) (hrow r hrm).1]
  exact forall_congr' fun j=>forall_congr' fun v=>imp_congr_right fun _=>dc
 have hsupp: ∀v∈c.vars,∀x,pu d (usesR c) (fun t=>holdsR c (eA d.length (usesR c) t (usesR c).length)) v x↔∃r∈rowsP d c,r.getD (c.vars.idxOf v) 0=x:=fun v hv x=>by
  have hiv:c.vars.idxOf v<c.vars.length:=List.idxOf_lt_length_iff.2 hv
  constructor
  ·rintro⟨f,h1,h2,rfl⟩
   have h2:=(hP f).1 h2
   refine⟨c.vars.map f,List.mem_filter.2 ⟨h2,(hri _ h2).2 fun j v hj=> ?_⟩,?_⟩
   ·rw[C0,C8,hj]
    exact h1 v ((hmem v).2 (C4 hj))
   ·rw[C0,C8,C1 hiv,El];rfl
  ·rintro⟨r,hr,rfl⟩
   obtain⟨hrm,hro⟩:=List.mem_filter.1 hr
   have hro:=(hri r hrm).1 hro
   refine⟨fun u=>r.getD (c.vars.idxOf u) 0,fun u hu=> ?_,(hP _).2 ?_,rfl⟩
   ·have hm:=(hmem u).1 hu
    refine hro (c.vars.idxOf u) u ?_
    rw[C1 (List.idxOf_lt_length_iff.2 hm),El]
   ·have:c.vars.map (fun u=>r.getD (c.vars.idxOf u) 0)=r:=by
     refine Ed (by rw[C6,(hrow r hrm).1]) fun j h1 h2=> ?_
     have hj:j<c.vars.length:=by simpa using h1
     rw[Ee,hnod.idxOf_getElem j hj,C0,C1 h2];rfl
    rw[this];exact hrm
 have hcol: ∀j,j<c.vars.length→(domOfP (gM (rowsP d c) j)).1=cZ (aV (gM (rowsP d c) j)):=fun j hj=>by
  have h1: ∀x∈gM (rowsP d c) j,-1048576≤x∧x≤1048576:=fun x hx=>by
   obtain⟨r,hr,rfl⟩:=List.mem_map.1 hx
   have hrm:=(List.mem_filter.1 hr).1
   have hl:=(hrow r hrm).1
   rw[C0,C1 (by omega)]
   exact(hrow r hrm).2 _ (C5 _)
  have h2:(gM (rowsP d c) j).length≤4096:=by
   have:(rowsP d c).length≤c.rows.length:=DN _ _
   simp only[gM,C6];omega
  rw[ww h1 h2]
 have hat:=sM (rowsP d c) c.vars 0 d hnod hv.2
 have hdat: ∀v∈c.vars,∃y,(gw (rowsP d c) c.vars 0 d)[v.toNat]? =some y∧az y∧∀x,x∈vals y↔∃r∈rowsP d c,r.getD (c.vars.idxOf v) 0=x:=fun v hvm=>by
  have hiv:c.vars.idxOf v<c.vars.length:=List.idxOf_lt_length_iff.2 hvm
  have h0:=hv.2 v hvm
  have e:((v.toNat:Nat):Int)=v:=by omega
  have h3:=(hat v.toNat).2 (c.vars.idxOf v) (by rw[e,C1 hiv,El])
  rw[Dy,hcol _ hiv]at h3
  refine⟨_,h3,fX (bZ _),fun x=> ?_⟩
  rw[bI (bZ _),bJ]
  unfold gM
  rw[EX]
 unfold bK tabO
 rw[if_neg (by omega),if_neg (by omega),if_neg (by omega),if_neg (by omega),if_neg gd.some']
 unfold lh
 rw[if_neg gd.some']
 have hpos:c.vars≠[]:=fun e=>by
  unfold rightR at hr
  rw[if_neg (by omega),if_neg (by omega),if_pos hk]at hr
  simp only[manyR,CR,decide_eq_true_eq]at hr
  have:=hr.1.2.1
  rw[e]at this;simp at this
 rw[ny (out:=gw (rowsP d c) c.vars 0 d) hnd hin (pQ _ _ _ _) (fun x hx=> ?_) (fun v hvm x=> ?_) (fun i hi=>(hat i).1 fun hm=>hi ((hmem _).2 hm))]
 ·unfold mC
  by_cases hr0:rowsP d c=[]
  ·rw[if_pos hr0,if_pos]
   obtain⟨v,hvm⟩:=Dx _ hpos
   obtain⟨y,hy,hok,hx⟩:=hdat v hvm
   have:y=[]:=(e6 hok).1 (List.eq_nil_iff_forall_not_mem.2 fun x hxm=>by
    obtain⟨r,hr,_⟩:=(hx x).1 hxm
    rw[hr0]at hr;cases hr)
   exact this▸C4 hy
  ·rw[if_neg hr0,if_neg]
   intro hm
   obtain⟨k,hk2⟩:=C9 hm
   by_cases hkv:(k:Int)∈c.vars
   ·obtain⟨y,hy,hok,hx⟩:=hdat _ hkv
    rw[D1,hk2]at hy
    obtain rfl:=C2 hy
    obtain⟨r,hr⟩:=Dx _ hr0
    have:=(hx _).2 ⟨r,hr,rfl⟩
    cases this
   ·rw[(hat k).1 hkv]at hk2
    exact gd.some' (C4 hk2)
 ·obtain⟨k,hk2⟩:=C9 hx
  by_cases hkv:(k:Int)∈c.vars
  ·obtain⟨y,hy,hok,_⟩:=hdat _ hkv
   rw[D1,hk2]at hy
   exact C2 hy▸hok
  ·rw[(hat k).1 hkv]at hk2
   exact(gd.few.fine x (C4 hk2)).ok
 ·have hvc:=(hmem v).1 hvm
  obtain⟨y,hy,_,hx⟩:=hdat v hvc
  have:domAt (gw (rowsP d c) c.vars 0 d) v=y:=by
   unfold domAt
   rw[C0,hy];rfl
  rw[this,hx,hsupp v hvc]
theorem lA {x:Int×Int}{a:List (Int×Int)}(h:az (x::a)){v:Int}(hv:v∈vals a):x.2+2≤v:=by
 obtain⟨s,hs,h4,h5⟩:=aT.1 hv
 have:=(List.pairwise_cons.1 h.2).1 s hs
 omega
theorem nq: ∀(n:Nat) (a b:List (Int×Int)),a.length+b.length≤n→az a→az b→az (bB a b)∧(∀r∈bB a b,∃s∈a,s.1≤r.1∧r.2≤s.2)∧(∀r∈bB a b,∃s∈b,s.1≤r.1∧r.2≤s.2)∧∀v,v∈vals (bB a b)↔v∈vals a∧v∈vals b
 |_,[],b,_,_,_=>by rw[nu];exact⟨⟨by simp,.nil⟩,by simp,by simp,by simp[vals]⟩
 |_,x::a,[],_,_,_=>by rw[nt];exact⟨⟨by simp,.nil⟩,by simp,by simp,by simp[vals]⟩
 |0,x::a,y::b,hn,_,_=>by simp at hn
 |n+1,x::a,y::b,hn,ha,hb=>by
  have hx:=ha.1 x (.head _)
  have hy:=hb.1 y (.head _)
  have hpa:=(List.pairwise_cons.1 ha.2).1
  have hpb:=(List.pairwise_cons.1 hb.2).1
  rw[hI]
  have key:az (if x.2<y.2 then bB a (y::b)else bB (x::a) b)∧(∀r∈(if x.2<y.2 then bB a (y::b)else bB (x::a) b),(∃s∈x::a,s.1≤r.1∧r.2≤s.2)∧(∃s∈y::b,s.1≤r.1∧r.2≤s.2)∧min x.2 y.2+2≤r.1)∧
    ∀v,v∈vals (if x.2<y.2 then bB a (y::b)else bB (x::a) b)↔(v∈vals (x::a)∧v∈vals (y::b))∧min x.2 y.2<v:=by
   by_cases hlt:x.2<y.2
   ·rw[if_pos hlt]
    obtain⟨h1,h2,h3,h4⟩:=nq n a (y::b) (by simp at hn⊢;omega) ha.tail hb
    refine⟨h1,fun r hr=> ?_,fun v=> ?_⟩
    ·obtain⟨s,hs,h5,h6⟩:=h2 r hr
     have:=hpa s hs
     exact⟨⟨s,.tail _ hs,h5,h6⟩,h3 r hr,by omega⟩
    ·rw[h4,bj x a,Dl,cF]
     constructor
     ·rintro⟨h5,h6⟩
      have:=lA ha h5
      exact⟨⟨.inr h5,h6⟩,by omega⟩
     ·rintro⟨⟨h5|h5,h6⟩,h7⟩
      ·omega
      ·exact⟨h5,h6⟩
   ·rw[if_neg hlt]
    obtain⟨h1,h2,h3,h4⟩:=nq n (x::a) b (by simp at hn⊢;omega) ha hb.tail
    refine⟨h1,fun r hr=> ?_,fun v=> ?_⟩
    ·obtain⟨s,hs,h5,h6⟩:=h3 r hr
     have:=hpb s hs
     exact⟨h2 r hr,⟨s,.tail _ hs,h5,h6⟩,by omega⟩
    ·rw[h4,bj y b,Dl,cF]
     constructor
     ·rintro⟨h5,h6⟩
      have:=lA hb h6
      exact⟨⟨h5,.inr h6⟩,by omega⟩
     ·rintro⟨⟨h5,h6|h6⟩,h7⟩
      ·omega
      ·exact⟨h5,h6⟩
  generalize (if x.2<y.2 then bB a (y::b)else bB (x::a) b)=t at*
  obtain⟨t1,t2,t3⟩:=key
  have hmem: ∀v,v≤min x.2 y.2→(v∈vals (x::a)∧v∈vals (y::b)↔max x.1 y.1≤v):=fun v hv=>by
   rw[bj,bj,Dl,Dl,cF,cF]
   constructor
   ·rintro⟨h5|h5,h6|h6⟩
    ·omega
    ·have:=lA hb h6;omega
    ·have:=lA ha h5;omega
    ·have:=lA ha h5;omega
   ·intro h5
    exact⟨.inl (by omega),.inl (by omega)⟩
  by_cases hc:max x.1 y.1≤min x.2 y.2
  ·rw[if_pos hc]
   refine⟨⟨fun r hr=> ?_,List.pairwise_cons.2 ⟨fun r hr=> ?_,t1.2⟩⟩,fun r hr=> ?_,fun r hr=> ?_,fun v=> ?_⟩
   ·rcases List.mem_cons.1 hr with rfl|hr
    ·exact hc
    ·exact t1.1 r hr
   ·have:=(t2 r hr).2.2
    simp only;omega
   ·rcases List.mem_cons.1 hr with rfl|hr
    ·exact⟨x,.head _,by simp only;omega,by simp only;omega⟩
    ·exact(t2 r hr).1
   ·rcases List.mem_cons.1 hr with rfl|hr
    ·exact⟨y,.head _,by simp only;omega,by simp only;omega⟩
    ·exact(t2 r hr).2.1
   ·rw[List.singleton_append,bj,Dl,cF,t3]
    by_cases hv:v≤min x.2 y.2
    ·rw[hmem v hv]
     simp only
     omega
    ·simp only
     constructor
     ·rintro(h5|h5)
      ·omega
      ·exact h5.1
     ·exact fun h5=> .inr ⟨h5,by omega⟩
  ·rw[if_neg hc,Df]
   refine⟨t1,fun r hr=>(t2 r hr).1,fun r hr=>(t2 r hr).2.1,fun v=> ?_⟩
   rw[t3]
   constructor
   ·exact fun h=>h.1
   ·intro h
    refine⟨h,Classical.byContradiction fun hv=> ?_⟩
    have:=(hmem v (by omega)).1 h
    omega
theorem z7 {a b:List (Int×Int)}(ha:az a)(hb:az b):az (bB a b)∧∀v,v∈vals (bB a b)↔v∈vals a∧v∈vals b:=
 ⟨(nq _ a b (CS _) ha hb).1,(nq _ a b (CS _) ha hb).2.2.2⟩
def t7 (out:List (Int×Int))(x:Int×Int):List (Int×Int):=match out.getLast? with
 |none=>out++[x]
 |some r=>if x.1≤r.2+1 then out.dropLast++[(r.1,max r.2 x.2)]else out++[x]
def joinG (l:List (Int×Int)):List (Int×Int):=l.foldl t7 []
theorem jn (x:Int×Int):t7 [] x=[x]:=rfl
theorem ic (o:List (Int×Int))(r x:Int×Int):t7 (o++[r]) x=if x.1≤r.2+1 then o++[(r.1,max r.2 x.2)]else o++[r]++[x]:=by
 unfold t7
 rw[List.getLast?_append]
 simp
theorem ie (l:List (Int×Int))(x:Int×Int):joinG (l++[x])=t7 (joinG l) x:=by simp[joinG]
theorem snocInd {α:Type}{P:List α→Prop}(h0:P [])(h1: ∀l x,P l→P (l++[x]))(l:List α):P l:=by
 have key: ∀l:List α,P l.reverse:=by
  intro l
  induction l with
  |nil=>exact h0
  |cons x l ih=>rw[List.reverse_cons];exact h1 _ _ ih
 have:=key l.reverse
 rwa[List.reverse_reverse]at this
theorem yD (l:List (Int×Int)):(joinG l).length≤l.length:=by
 refine snocInd (P:=fun l=>(joinG l).length≤l.length) (by simp[joinG]) (fun l x ih=> ?_) l
 ·show(joinG (l++[x])).length≤(l++[x]).length
  rw[ie]
  rcases EE (joinG l)with h|⟨o,r,h⟩
  ·rw[h,jn];simp
  ·rw[h,E8,ic]
   rw[h,E8]at ih
   split<;>simp at ih⊢ <;>omega
theorem Bc: ∀(l:List (Int×Int)),(∀r∈l,r.1≤r.2)→l.Pairwise (fun r s=>r.1≤s.1)→az (joinG l)∧(∀r∈joinG l,∃s∈l,r.1=s.1)∧∀v,v∈vals (joinG l)↔∃r∈l,r.1≤v∧v≤r.2:=by
 intro l
 refine snocInd (P:=fun l=>(∀r∈l,r.1≤r.2)→l.Pairwise (fun r s=>r.1≤s.1)→az (joinG l)∧(∀r∈joinG l,∃s∈l,r.1=s.1)∧∀v,v∈vals (joinG l)↔∃r∈l,r.1≤v∧v≤r.2) (fun _ _=>⟨⟨by simp[joinG],.nil⟩,by simp[joinG],by simp[joinG,vals]⟩) (fun l x ih=> ?_) l
 ·intro h1 h2
  have hp:=List.pairwise_append.1 h2
  obtain⟨i1,i2,i3⟩:=ih (fun r hr=>h1 r (D4 _ hr)) hp.1
  have hx:=h1 x (D7 _ (.head _))
  have hle: ∀r∈joinG l,r.1≤x.1:=fun r hr=>by
   obtain⟨s,hs,e⟩:=i2 r hr
   rw[e];exact hp.2.2 s hs x (.head _)
  have hmem: ∀v,(∃r∈l++[x],r.1≤v∧v≤r.2)↔v∈vals (joinG l)∨(x.1≤v∧v≤x.2):=fun v=>by
   rw[i3]
   constructor
   ·rintro⟨r,hr,h⟩
    rcases List.mem_append.1 hr with hr|hr
    ·exact .inl ⟨r,hr,h⟩
    ·rw[List.mem_singleton.1 hr]at h;exact .inr h
   ·rintro(⟨r,hr,h⟩|h)
    ·exact⟨r,D4 _ hr,h⟩
    ·exact⟨x,D7 _ (.head _),h⟩
  rw[ie]
  rcases EE (joinG l)with h|⟨o,r,h⟩
  ·rw[h]at hmem⊢
   rw[jn]
   refine⟨⟨by simp;omega,Dp _ _⟩,fun r hr=>⟨x,D7 _ (.head _),by rw[List.mem_singleton.1 hr]⟩,fun v=> ?_⟩
   rw[hmem]
   simp[vals,cF]
  ·rw[h,E8]at i1 i2 hle hmem⊢
   rw[ic]
   obtain⟨a1,a2⟩:=i1
   have hpo:=List.pairwise_append.1 a2
   have hr:=a1 r (D7 _ (.head _))
   have hrx:=hle r (D7 _ (.head _))
   have vs: ∀(o:List (Int×Int)) (v:Int),v∈vals (o++[r])↔v∈vals o∨(r.1≤v∧v≤r.2):=fun o v=>by simp[vals,cF]
   by_cases hc:x.1≤r.2+1
   ·rw[if_pos hc]
    refine⟨⟨fun s hs=> ?_,List.pairwise_append.2 ⟨hpo.1,Dp _ _,fun s hs t ht=> ?_⟩⟩,fun s hs=> ?_,fun v=> ?_⟩
    ·rcases List.mem_append.1 hs with hs|hs
     ·exact a1 s (D4 _ hs)
     ·rw[List.mem_singleton.1 hs];simp only;omega
    ·rw[List.mem_singleton.1 ht]
     exact hpo.2.2 s hs r (.head _)
    ·rcases List.mem_append.1 hs with hs|hs
     ·obtain⟨t,ht,e⟩:=i2 s (D4 _ hs)
      exact⟨t,D4 _ ht,e⟩
     ·obtain⟨t,ht,e⟩:=i2 r (D7 _ (.head _))
      exact⟨t,D4 _ ht,by rw[List.mem_singleton.1 hs];exact e⟩
    ·rw[hmem,vs]
     have:v∈vals (o++[(r.1,max r.2 x.2)])↔v∈vals o∨(r.1≤v∧v≤max r.2 x.2):=by simp[vals,cF]
     rw[this]
     constructor
     ·rintro(h5|h5)
      ·exact .inl (.inl h5)
      ·by_cases h6:v≤r.2
       ·exact .inl (.inr ⟨h5.1,h6⟩)
       ·exact .inr (by omega)
     ·rintro((h5|h5)|h5)
      ·exact .inl h5
      ·exact .inr (by omega)
      ·exact .inr (by omega)
   ·rw[if_neg hc]
    refine⟨⟨fun s hs=> ?_,List.pairwise_append.2 ⟨a2,Dp _ _,fun s hs t ht=> ?_⟩⟩,fun s hs=> ?_,fun v=> ?_⟩
    ·rcases List.mem_append.1 hs with hs|hs
     ·exact a1 s hs
     ·rw[List.mem_singleton.1 hs];exact hx
    ·rw[List.mem_singleton.1 ht]
     rcases List.mem_append.1 hs with hs|hs
     ·have:=hpo.2.2 s hs r (.head _);omega
     ·rw[List.mem_singleton.1 hs];omega
    ·rcases List.mem_append.1 hs with hs|hs
     ·obtain⟨t,ht,e⟩:=i2 s hs
      exact⟨t,D4 _ ht,e⟩
     ·exact⟨x,D7 _ (.head _),by rw[List.mem_singleton.1 hs]⟩
    ·rw[hmem]
     simp[vals,cF,or_assoc]
end Go.Proofs.YtopcjbahjjhdmaaGreat
namespace Go.Proofs.YtopcjbahjjhdmaaGreat
open Go Go.RowKit Go.Sort
set_option linter.unusedVariables false
set_option linter.unusedSimpArgs false
set_option maxRecDepth 8000
def RB:Type:= {r:Int×Int // -2097152≤r.1∧r.1≤2097152}
def rb0:RB:=⟨(0,0),by decide,by decide⟩
instance:Inhabited RB:=⟨rb0⟩
def dO (x:RB):List Value:=[.int .i64 x.1.1,.int .i64 x.1.2]
def nb (x y:RB):Int:=x.1.1-y.1.1
theorem A6 (x y:RB):ltOf nb x y=decide (x.1.1<y.1.1):=by
 unfold ltOf nb
 by_cases h:x.1.1<y.1.1
 ·simp[h];omega
 ·simp[h];omega
theorem Bz:SWO (ltOf nb) where
 irrefl x:=by rw[A6];simp
 trans x y z h1 h2:=by rw[A6]at *;simp at *;omega
 ntrans x y z h1 h2:=by rw[A6]at *;simp at *;omega
theorem CD (x y:RB)(W:World):Calls Tryz.prog 229 #[.agg (dO x).toArray,.agg (dO y).toArray] W fun e w'=>e= .returned (.int .i64 (nb x y))∧∃q os',w'=grow (W.drewN q) os':=by
 have hw:IntKind.i64.wrap (x.1.1-y.1.1)=x.1.1-y.1.1:=ae (by have:=x.2;have:=y.2;omega) (by have:=x.2;have:=y.2;omega)
 unfold dO nb
 go_enter Tryz.func229,Tryz.ntmps229
 go_wp2
 go_ret
 exact⟨rfl,0,_,by rw[alloc_eq_grow,alloc_eq_grow,grow_grow];rfl⟩
theorem BX (l:List RB):(flatK dO 2 l.toArray).toList=(l.map dO).flatten:=by
 have key: ∀(l:List RB) (t:Nat),t<l.length*2→((l.map dO).flatten)[t]? =some (dO l[t / 2]!)[t % 2]! :=by
  intro l
  induction l with
  |nil=>intro t h;simp at h
  |cons x l ih=>
   intro t h
   match t with
   |0=>rfl
   |1=>rfl
   |t+2=>
    rw[CY,DU,show(dO x)=[.int .i64 x.1.1,.int .i64 x.1.2]from rfl]
    rw[show∀(a b:Value) (m:List Value),([a,b]++m)[t+2]? =m[t]? from fun _ _ _=>rfl,ih t (by simp at h;omega)]
    rw[show(t+2) / 2=t / 2+1 by omega,show(t+2) % 2=t % 2 by omega]
    rfl
 have hlen:((l.map dO).flatten).length=l.length*2:=by
  induction l with
  |nil=>rfl
  |cons x l ih=>rw[CY,DU,CW,ih];simp[dO];omega
 refine Ed (by rw[DQ,size_flatK,hlen];rfl) fun t h1 h2=> ?_
 have ht:t<l.length*2:=by rw[←hlen];exact h2
 have h3:=key l t ht
 rw[C1 h2]at h3
 have h4:=get_flatK dO 2 l.toArray t (by simpa using ht)
 rw[getElem!_pos _ t (by simpa using ht)]at h4
 rw[Array.getElem_toList,h4,C2 h3]
 simp
theorem wi {w:World}{g:Nat}{cur:Array Value}{e:TypeId}{F:Array Value}(hb:w.heap[g]? =some (.cells cur e (0,0)))(ht:cur.toList.take F.size=F.toList):Holds id w g 0 F:=by
 intro j hj
 refine⟨?_,by simp[World.frozen?,hb]⟩
 have h1:(cur.toList.take F.size)[j]? =F.toList[j]? :=by rw[ht]
 rw[E5 hj]at h1
 simp only[World.cell?,hb,Dy]
 simp only[Fp,DR,if_false]
 rw[←E6,h1]
 simp[hj]
theorem ro (cur F:Array Value)(h:F.size≤cur.size):(Go.Sort.putCells id 0 F cur).toList.take F.size=F.toList:=by
 apply Ds
 intro j
 by_cases hj:j<F.size
 ·rw[E5 hj,E6]
  simp[Go.Sort.putCells,hj,show j<cur.size by omega]
 ·rw[List.getElem?_take_eq_none (by omega),DM (by simp;omega)]
def iJ (r:Int×Int):RB:=if h: -2097152≤r.1∧r.1≤2097152 then⟨r,h⟩else rb0
def sortR (l:List (Int×Int)):List (Int×Int):=((pdq (ltOf nb) (l.map iJ).toArray 0 l.length (Lib.bitLen l.length) true true).toList).map (·.1)
theorem sK {l:List (Int×Int)}(h: ∀r∈l,-2097152≤r.1∧r.1≤2097152):(l.map iJ).map (·.1)=l:=by
 rw[Dz]
 conv=>rhs;rw[←List.map_id l]
 refine DS fun r hr=> ?_
 simp[iJ,h r hr]
theorem nQ {l:List (Int×Int)}(h: ∀r∈l,-2097152≤r.1∧r.1≤2097152):(sortR l).Perm l∧(sortR l).Pairwise (fun r s=>r.1≤s.1):=by
 have hs:(l.map iJ).toArray.size=l.length:=by simp
 have hp:=pdq_sorts (ltOf nb) Bz (l.map iJ).toArray 0 (l.map iJ).toArray.size (Lib.bitLen (l.map iJ).toArray.size) true true (DC _) (CS _) (Or.inl rfl)
 rw[hs]at hp
 unfold sortR
 generalize pdq (ltOf nb) (l.map iJ).toArray 0 l.length (Lib.bitLen l.length) true true=d' at hp⊢
 obtain⟨⟨h1,_,h3⟩,h4⟩:=hp
 rw[hs]at h1
 have e1:(d'.extract 0 l.length).toList=d'.toList:=by rw[←h1];simp
 have e2:((l.map iJ).toArray.extract 0 l.length).toList=l.map iJ:=by simp[CV]
 rw[e1,e2]at h3
 refine⟨?_,?_⟩
 ·have:=h3.map (·.1)
  rwa[sK h]at this
 ·rw[Fy,List.pairwise_iff_getElem]
  intro i j hi hj hij
  have:=h4 i j (DC _) hij (by rw[←h1];simpa using hj)
  rw[A6,getElem!_pos _ i (by simpa using hi),getElem!_pos _ j (by simpa using hj)]at this
  simp at this
  simpa using this
theorem oh {w:World}{Z:Nat→Prop}: ∀{l:List (Int×Int)} {vs:List Value},L2 (Rep w Z) vs (l.map cR).flatten→vs=(l.map fun r=>[Value.int .i64 r.1,Value.int .i64 r.2]).flatten
 | [],_,.nil=>rfl
 |r::l,_,.cons h1 (.cons h2 h3)=>by
  cases h1;cases h2
  rw[oh h3];rfl
theorem n9 {w:World}{Z:Nat→Prop}: ∀(l:List (Int×Int)),L2 (Rep w Z) (l.map fun r=>[Value.int .i64 r.1,Value.int .i64 r.2]).flatten (l.map cR).flatten
 | []=> .nil
 |r::l=> .cons (.int _ _) (.cons (.int _ _) (n9 l))
theorem xv {l:List (Int×Int)}(m:List RB)(h:m.map (·.1)=l):(flatK dO 2 m.toArray).toList=(l.map fun r=>[Value.int .i64 r.1,Value.int .i64 r.2]).flatten:=by
 rw[BX,←h,Dz];rfl
theorem sO (l:List (Int×Int))(hl:l.length*16≤140737488355328)(hb: ∀r∈l,-2097152≤r.1∧r.1≤2097152):SpecM Tryz.prog 228 53 2 (l.map cR) [.fn (.func 229) [] []] ((sortR l).map cR) []:=by
 have hsl:(sortR l).length=l.length:=(nQ hb).1.length_eq
 refine⟨⟨_,Tryz.func228,rfl,rfl⟩,fun p hp=>(by cases hp),fun w Z1 v0 vs ho hz hvs=> ?_⟩
 cases hvs with
 |cons hf hvs=>
 cases hvs
 cases hf with
 |fn _ us vs _ _ hu hc=>
 cases hu
 cases hc
 obtain⟨xs,hrow,hx,h1,h2⟩:=ho
 obtain rfl:=oh hx
 rw[C6]at hrow
 obtain⟨hln,hrow⟩:=hrow
 have hflen: ∀m:List (Int×Int),((m.map fun r=>[Value.int .i64 r.1,Value.int .i64 r.2]).flatten).length=m.length*2:=fun m=>by
  induction m with
  |nil=>rfl
  |cons r m ih=>rw[CY,DU,CW,ih];simp;omega
 rcases hrow with ⟨rfl,hnil⟩|⟨g,cap,cur,rfl,_,hbk,hcap,hmax,hsz,htk⟩
 ·obtain rfl:l=[]:=by simpa using hnil
  refine(AnyF.slices_SortFunc_none qo none 0 _ w).mono ?_
  rintro e w' ⟨rfl,rfl⟩
  have hn:sortR []=[]:=CT hsl
  refine⟨[],rfl,rfl,rfl,rfl,CS _,fun _ _ _=>rfl,?_,.nil⟩
  rw[hn]
  refine⟨[],⟨rfl,.inl ⟨rfl,rfl⟩⟩,.nil,?_,?_⟩<;>(intro r hr;cases hr)
 ·have hg:g<w.heap.size:=(Array.getElem?_eq_some_iff.1 hbk).1
  have hfl:=xv (l.map iJ) (sK hb)
  have hfs:(flatK dO 2 (l.map iJ).toArray).size=l.length*2:=by simp
  have hH:HoldsK dO 2 w g 0 (l.map iJ).toArray:=wi hbk (by rw[hfs,hfl];exact htk)
  have hcon:=AnyQ.slices_SortFunc_eq qo 2 Tryz.isAgg53 Tryz.sizeOf53 dO (fun _=>rfl) (fun x v hv=>by simp[dO]at hv;rcases hv with rfl|rfl<;>rfl) nb Bz 229 #[] g 0 cap (l.map iJ).toArray w
   (enters_of Tryz.func229 (by kernel_rfl) rfl) (fun _ _ _ _ x y=>CD x y _) hH hg (by simp;omega)
  rw[show(l.map iJ).toArray.size=l.length by simp]at hcon
  refine hcon.mono ?_
  rintro e w' ⟨rfl,n,os,rfl⟩
  have hpz:(pdq (ltOf nb) (l.map iJ).toArray 0 l.length (Lib.bitLen l.length) true true).size=l.length:=by
   have:=hsl
   unfold sortR at this
   simpa using this
  have hfl2:=xv (l:=sortR l) (pdq (ltOf nb) (l.map iJ).toArray 0 l.length (Lib.bitLen l.length) true true).toList rfl
  generalize pdq (ltOf nb) (l.map iJ).toArray 0 l.length (Lib.bitLen l.length) true true=d' at hpz hfl2⊢
  have hfs2:(flatK dO 2 d').size=l.length*2:=by rw[size_flatK,hpz]
  have hh:(sortWorldK dO 2 w g 0 n d' os).heap[g]? =some (.cells (Go.Sort.putCells id 0 (flatK dO 2 d') cur) 53 (0,0)):=by
   unfold sortWorldK putRowK
   rw[heap_grow_old _ _ (by simpa using hg)]
   simp[putRow,mapBlock,Sort.ahead,F3,hbk,onCells]
  have htk2:(Go.Sort.putCells id 0 (flatK dO 2 d') cur).toList.take ((sortR l).length*2)=((sortR l).map fun r=>[Value.int .i64 r.1,Value.int .i64 r.2]).flatten:=by
   rw[hsl,←hfs2,ro _ _ (by rw[hfs2,hsz];exact DJ 2 hcap)]
   exact hfl2
  refine⟨[],rfl,rfl,rfl,rfl,?_,fun b hb1 hb2=> ?_,⟨((sortR l).map fun r=>[Value.int .i64 r.1,Value.int .i64 r.2]).flatten,⟨by rw[hflen,C6],.inr ⟨g,cap,_,by rw[C6,hsl],DC _,hh,by rw[C6,hsl];exact hcap,hmax,by simp[Go.Sort.putCells,hsz],by rw[C6];exact htk2⟩⟩,n9 _,fun r hr=> ?_,fun r hr p hp=> ?_⟩,.nil⟩
  ·unfold sortWorldK putRowK
   simp
  ·unfold sortWorldK putRowK
   rw[heap_grow_old _ _ (by simpa using hb1)]
   have:g≠b:=fun e=>hb2 (by simp[VB,aw,e])
   simp[putRow,mapBlock,Sort.ahead,F3,this]
  ·obtain⟨x,_,rfl⟩:=List.mem_map.1 hr;rfl
  ·obtain⟨x,_,rfl⟩:=List.mem_map.1 hr
   simp[cR]at hp
   rcases hp with rfl|rfl<;>rfl
end Go.Proofs.YtopcjbahjjhdmaaGreat
namespace Go.Proofs.YtopcjbahjjhdmaaGreat
open Go Go.RowKit
set_option linter.unusedVariables false
set_option linter.unusedSimpArgs false
def oO (a b:List (Int×Int)):List (Int×Int):=joinG (sortR (a++b))
theorem An {a b:List (Int×Int)}(ha:az a)(hb:az b)(h: ∀r∈a++b,-1048576≤r.1∧r.1≤1048576∧-1048576≤r.2∧r.2≤1048576):az (oO a b)∧∀v,v∈vals (oO a b)↔v∈vals a∨v∈vals b:=by
 obtain⟨h1,h2⟩:=nQ (l:=a++b) fun r hr=>by have:=h r hr;omega
 obtain⟨h3,_,h4⟩:=Bc (sortR (a++b)) (fun r hr=>by
  rcases List.mem_append.1 (h1.mem_iff.1 hr)with hr|hr
  ·exact ha.1 r hr
  ·exact hb.1 r hr) h2
 refine⟨h3,fun v=> ?_⟩
 show v∈vals (joinG _)↔_
 rw[h4,aT,aT]
 constructor
 ·rintro⟨r,hr,h⟩
  rcases List.mem_append.1 (h1.mem_iff.1 hr)with hr|hr
  ·exact .inl ⟨r,hr,h⟩
  ·exact .inr ⟨r,hr,h⟩
 ·rintro(⟨r,hr,h⟩|⟨r,hr,h⟩)
  ·exact⟨r,h1.mem_iff.2 (D4 _ hr),h⟩
  ·exact⟨r,h1.mem_iff.2 (D7 _ hr),h⟩
def elemM (d:aa)(vs:List Int)(i:Int):List (Int×Int):=bB (domAt d (vs.getD (i.toNat+2) 0)) (domAt d (vs.getD 1 0))
def elemIn (d:aa)(vs:List Int)(i:Int):Bool:=decide (0≤i)&&decide (i.toNat+2<vs.length)&& !decide (elemM d vs i=[])
def elemPl (d:aa)(vs:List Int):List Int:=(vals (domAt d (vs.getD 0 0))).filter (elemIn d vs)
def elemMay (d:aa)(vs:List Int)(l:List Int):List (Int×Int):=l.foldl (fun m i=>oO m (elemM d vs i)) []
def rV (d:aa)(vs l:List Int):aa:=
 if l.length=1 then((d.set (vs.getD 0 0).toNat (domOfP l).1).set (vs.getD 1 0).toNat (elemMay d vs l)).set (vs.getD ((l.getD 0 0).toNat+2) 0).toNat (elemMay d vs l)else(d.set (vs.getD 0 0).toNat (domOfP l).1).set (vs.getD 1 0).toNat (elemMay d vs l)
def qS (d:aa)(c:Con):Option aa:=if []∈d then none else if elemPl d c.vars=[]then none else some (rV d c.vars (elemPl d c.vars))
theorem nB {x:List (Int×Int)}(h:az x)(hv: ∀v∈vals x,-1048576≤v∧v≤1048576): ∀r∈x,-1048576≤r.1∧r.1≤1048576∧-1048576≤r.2∧r.2≤1048576:=fun r hr=>by
 have h0:=h.1 r hr
 have h1:=hv r.1 (aT.2 ⟨r,hr,DO _,h0⟩)
 have h2:=hv r.2 (aT.2 ⟨r,hr,h0,DO _⟩)
 omega
theorem GoodD.dok {n:Nat}{d:aa}(gd:GoodD n d)(v:Int):az (domAt d v):=by
 unfold domAt
 by_cases hv:v.toNat<d.length
 ·rw[C0,C1 hv]
  exact(gd.few.fine _ (C5 hv)).ok
 ·rw[C0,DM (by omega)]
  exact⟨by simp,.nil⟩
theorem d7 {n:Nat}{d:aa}(gd:GoodD n d)(vs:List Int)(i:Int):az (elemM d vs i)∧∀v,v∈vals (elemM d vs i)↔v∈vals (domAt d (vs.getD (i.toNat+2) 0))∧v∈vals (domAt d (vs.getD 1 0)):=z7 (gd.dok _) (gd.dok _)
theorem o9 {n:Nat}{d:aa}(gd:GoodD n d)(vs:List Int)(l:List Int):az (elemMay d vs l)∧∀v,v∈vals (elemMay d vs l)↔∃i∈l,v∈vals (elemM d vs i):=by
 refine snocInd (P:=fun l=>az (elemMay d vs l)∧∀v,v∈vals (elemMay d vs l)↔∃i∈l,v∈vals (elemM d vs i)) ⟨⟨by simp[elemMay],.nil⟩,fun v=>by simp[elemMay,vals]⟩ (fun l i ⟨h1,h2⟩=> ?_) l
 have e:elemMay d vs (l++[i])=oO (elemMay d vs l) (elemM d vs i):=by simp[elemMay]
 obtain⟨h3,h4⟩:=d7 gd vs i
 have hr: ∀j v,v∈vals (elemM d vs j)→-1048576≤v∧v≤1048576:=fun j v hv=>(gd.few.at _).2.2 v (((d7 gd vs j).2 v).1 hv).1
 obtain⟨h5,h6⟩:=An h1 h3 fun r hr2=>by
  rcases List.mem_append.1 hr2 with hr2|hr2
  ·refine nB h1 (fun v hv=> ?_) r hr2
   obtain⟨j,_,hj⟩:=(h2 v).1 hv
   exact hr j v hj
  ·exact nB h3 (hr i) r hr2
 rw[e]
 refine⟨h5,fun v=> ?_⟩
 rw[h6,h2]
 constructor
 ·rintro(⟨j,hj,h⟩|h)
  ·exact⟨j,D4 _ hj,h⟩
  ·exact⟨i,D7 _ (.head _),h⟩
 ·rintro⟨j,hj,h⟩
  rcases List.mem_append.1 hj with hj|hj
  ·exact .inl ⟨j,hj,h⟩
  ·rw[List.mem_singleton.1 hj]at h;exact .inr h
theorem uD {n:Nat}{d:aa}(gd:GoodD n d)(vs:List Int)(l:List Int):(elemMay d vs l).length≤4096∧∀r∈elemMay d vs l,-1048576≤r.1∧r.1≤1048576∧-1048576≤r.2∧r.2≤1048576:=by
 obtain⟨h1,h2⟩:=o9 gd vs l
 have hs: ∀v∈vals (elemMay d vs l),v∈vals (domAt d (vs.getD 1 0)):=fun v hv=>by
  obtain⟨i,_,h⟩:=(h2 v).1 hv
  exact(((d7 gd vs i).2 v).1 h).2
 have h3:=bV (aF h1) hs
 have h4:=(gd.few.at (vs.getD 1 0)).1
 have h5:=bG h1
 exact⟨by omega,nB h1 fun v hv=>(gd.few.at _).2.2 v (hs v hv)⟩
theorem jr {vs:List Int}{f:Int→Int}{j:Nat}(h:j<vs.length):(vs.map f).getD j 0=f (vs.getD j 0):=by
 rw[C0,C8,C1 h,C0,C1 h];rfl
theorem i7 {vs:List Int}(hn:vs.Nodup){i j:Nat}(hi:i<vs.length)(hj:j<vs.length)(h:vs.getD i 0=vs.getD j 0):i=j:=by
 rw[aN hi,aN hj]at h
 rw[←hn.idxOf_getElem i hi,h,hn.idxOf_getElem j hj]
theorem cX {vs:List Int}{i:Nat}(hi:i<vs.length):vs.getD i 0∈vs:=by
 rw[aN hi];exact C5 hi
theorem im {n:Nat}{d:aa}(gd:GoodD n d)(vs:List Int)(i:Int):i∈elemPl d vs↔i∈vals (domAt d (vs.getD 0 0))∧0≤i∧i.toNat+2<vs.length∧∃y,y∈vals (elemM d vs i):=by
 have e: ¬elemM d vs i=[]↔∃y,y∈vals (elemM d vs i):=by
  rw[←e6 (d7 gd vs i).1]
  constructor
  ·exact fun h=>Dx _ h
  ·rintro⟨y,hy⟩ h;rw[h]at hy;cases hy
 unfold elemPl elemIn
 rw[EG,←e]
 simp[and_assoc]
def xz (vs:List Int)(f:Int→Int):Prop:=0≤f (vs.getD 0 0)∧(f (vs.getD 0 0)).toNat+2<vs.length∧f (vs.getD ((f (vs.getD 0 0)).toNat+2) 0)=f (vs.getD 1 0)
theorem yW {vs:List Int}(h3:3≤vs.length)(f:Int→Int):xy (vs.map f)=true↔xz vs f:=by
 unfold xy xz
 rw[jr (j:=0) (by omega),jr (j:=1) (by omega)]
 simp only[CR,decide_eq_true_eq,C6]
 generalize f (vs.getD 0 0)=i
 constructor
 ·rintro⟨⟨⟨_,h1⟩,h2⟩,h4⟩
  have e:(i+2).toNat=i.toNat+2:=by omega
  rw[e,jr (by omega)]at h4
  exact⟨h1,by omega,h4⟩
 ·rintro⟨h1,h2,h4⟩
  have e:(i+2).toNat=i.toNat+2:=by omega
  rw[e,jr (by omega)]
  exact⟨⟨⟨by omega,h1⟩,by omega⟩,h4⟩
theorem yT {n:Nat}{d:aa}(gd:GoodD n d){vs:List Int}(hn:vs.Nodup)(h3:3≤vs.length)(h0: ∀u∈vs,0≤u∧u.toNat<n){v:Int}(hv:v∈vs)(x:Int):
  (∃f:Int→Int,(∀u∈vs,f u∈vals (domAt d u))∧xz vs f∧f v=x)↔∃i y,i∈elemPl d vs∧y∈vals (elemM d vs i)∧x∈vals (domAt d v)∧(v=vs.getD 0 0→x=i)∧(v=vs.getD 1 0→x=y)∧(v=vs.getD (i.toNat+2) 0→x=y):=by
 constructor
 ·rintro⟨f,h1,⟨h4,h5,h6⟩,rfl⟩
  have hy:f (vs.getD 1 0)∈vals (elemM d vs (f (vs.getD 0 0))):=by
   rw[(d7 gd vs _).2]
   exact⟨by rw[←h6];exact h1 _ (cX h5),h1 _ (cX (by omega))⟩
  refine⟨f (vs.getD 0 0),f (vs.getD 1 0),(im gd vs _).2 ⟨h1 _ (cX (by omega)),h4,h5,_,hy⟩,hy,h1 v hv,fun e=>by rw[e],fun e=>by rw[e],fun e=>by rw[←h6,e]⟩
 ·rintro⟨i,y,hi,hy,hx,e0,e1,e2⟩
  obtain⟨i1,i2,i3,_⟩:=(im gd vs i).1 hi
  obtain⟨y1,y2⟩:=((d7 gd vs i).2 y).1 hy
  have hg: ∀u,∃w,u∈vs→w∈vals (domAt d u):=fun u=>by
   by_cases hu:u∈vs
   ·obtain⟨w,hw⟩:=gd.ne (h0 u hu).2
    exact⟨w,fun _=>hw⟩
   ·exact⟨0,fun h=>absurd h hu⟩
  have d01:vs.getD 1 0≠vs.getD 0 0:=fun e=>by have:=i7 hn (by omega) (by omega) e;omega
  have d02:vs.getD (i.toNat+2) 0≠vs.getD 0 0:=fun e=>by have:=i7 hn (by omega) (by omega) e;omega
  have d12:vs.getD (i.toNat+2) 0≠vs.getD 1 0:=fun e=>by have:=i7 hn (by omega) (by omega) e;omega
  let f:Int→Int:=fun u=>if u=vs.getD 0 0 then i else if u=vs.getD 1 0 then y else if u=vs.getD (i.toNat+2) 0 then y else if u=v then x else Classical.choose (hg u)
  have f0:f (vs.getD 0 0)=i:=if_pos rfl
  have f1:f (vs.getD 1 0)=y:=by simp only[f];rw[if_neg d01,if_pos trivial]
  have f2:f (vs.getD (i.toNat+2) 0)=y:=by simp only[f];rw[if_neg d02,if_neg d12,if_pos trivial]
  refine⟨f,fun u hu=> ?_,⟨by rw[f0];exact i2,by rw[f0];exact i3,by rw[f0,f1,f2]⟩,?_⟩
  ·simp only[f]
   by_cases c0:u=vs.getD 0 0
   ·rw[if_pos c0,c0];exact i1
   rw[if_neg c0]
   by_cases c1:u=vs.getD 1 0
   ·rw[if_pos c1,c1];exact y2
   rw[if_neg c1]
   by_cases c2:u=vs.getD (i.toNat+2) 0
   ·rw[if_pos c2,c2];exact y1
   rw[if_neg c2]
   by_cases c3:u=v
   ·rw[if_pos c3,c3];exact hx
   ·rw[if_neg c3];exact Classical.choose_spec (hg u) hu
  ·simp only[f]
   by_cases c0:v=vs.getD 0 0
   ·rw[if_pos c0];exact(e0 c0).symm
   rw[if_neg c0]
   by_cases c1:v=vs.getD 1 0
   ·rw[if_pos c1];exact(e1 c1).symm
   rw[if_neg c1]
   by_cases c2:v=vs.getD (i.toNat+2) 0
   ·rw[if_pos c2];exact(e2 c2).symm
   rw[if_neg c2,if_pos trivial]
theorem yU {n:Nat}{d:aa}{c:Con}(gd:GoodD n d)(hc:ConB c)(h:conR d c=0)(hk:c.kind=3):bK c d=qS d c:=by
 obtain⟨_,hv,hr,hin⟩:=cS hc h
 have hu:usesR c=aV c.vars:=by unfold usesR;rw[if_neg (by omega)]
 have hrr:c.vars.Nodup∧3≤c.vars.length:=by
  unfold rightR at hr
  rw[if_neg (by omega),if_neg (by omega),if_neg (by omega),if_pos hk]at hr
  simp only[manyR,CR,decide_eq_true_eq]at hr
  exact⟨hr.1.2.2,hr.2⟩
 obtain⟨hnod,h3⟩:=hrr
 have hnd:(usesR c).Nodup:=dA (bZ _)
 have hmem: ∀u,u∈usesR c↔u∈c.vars:=fun u=>by rw[hu];exact bJ u _
 have hP: ∀f:Int→Int,holdsR c (eA d.length (usesR c) ((usesR c).map f) (usesR c).length)=true↔xz c.vars f:=fun f=>by
  have hpk:pickedR c.vars (eA d.length (usesR c) ((usesR c).map f) (usesR c).length)=c.vars.map f:=DS fun v hv=>lz f hin ((hmem v).2 hv)
  unfold holdsR
  rw[if_neg (by omega),if_neg (by omega),if_neg (by omega),if_pos hk,hpk]
  exact yW h3 f
 have h0: ∀u∈c.vars,0≤u∧u.toNat<n:=fun u hu=>by have:=hv.2 u hu;rwa[gd.len]at this
 have hS: ∀v∈c.vars,∀x,pu d (usesR c) (fun t=>holdsR c (eA d.length (usesR c) t (usesR c).length)) v x↔∃i y,i∈elemPl d c.vars∧y∈vals (elemM d c.vars i)∧x∈vals (domAt d v)∧(v=c.vars.getD 0 0→x=i)∧(v=c.vars.getD 1 0→x=y)∧(v=c.vars.getD (i.toNat+2) 0→x=y):=fun v hvm x=>by
  rw[←yT gd hnod h3 h0 hvm x]
  constructor
  ·rintro⟨f,h1,h2,h4⟩
   exact⟨f,fun u hu=>h1 u ((hmem u).2 hu),(hP f).1 h2,h4⟩
  ·rintro⟨f,h1,h2,h4⟩
   exact⟨f,fun u hu=>h1 u ((hmem u).1 hu),(hP f).2 h2,h4⟩
 unfold bK qS
 rw[if_neg (by omega),if_neg (by omega),if_neg (by omega),if_neg (by omega),if_neg gd.some']
 unfold lh
 rw[if_neg gd.some']
 generalize (fun t=>holdsR c (eA d.length (usesR c) t (usesR c).length))=P at hS⊢
 generalize usesR c=us at*
 have hlin: ∀u,u∈us→0≤u∧u.toNat<d.length:=hin
 clear hP h hu hr hc hk
 generalize c.vars=vs at*
 have dne: ∀j k,j<vs.length→k<vs.length→j≠k→(vs.getD j 0).toNat≠(vs.getD k 0).toNat:=fun j k hj hk e2 e=>e2 (i7 hnod hj hk (by have:=(h0 _ (cX hj)).1;have:=(h0 _ (cX hk)).1;omega))
 by_cases hl:elemPl d vs=[]
 ·rw[if_pos hl]
  refine if_pos ?_
  have hv0:vs.getD 0 0∈vs:=cX (by omega)
  have hz:=h0 _ hv0
  obtain⟨y,hy,hok,hx⟩:=(kL (P:=P) hnd hlin (vs.getD 0 0).toNat).2 (by rw[EN hz.1];exact(hmem _).2 hv0)
  have:y=[]:=(e6 hok).1 (List.eq_nil_iff_forall_not_mem.2 fun x hxm=>by
   have:=(hx x).1 hxm
   rw[EN hz.1,hS _ hv0,hl]at this
   obtain⟨i,_,h,_⟩:=this
   cases h)
  rw[this]at hy
  exact C4 hy
 ·rw[if_neg hl]
  obtain⟨m1,m2⟩:=o9 gd vs (elemPl d vs)
  have hlu:Up (elemPl d vs):=(aF (gd.dok _)).filter _
  have hlv: ∀v∈elemPl d vs,-1048576≤v∧v≤1048576:=fun v hv=>(gd.few.at _).2.2 v (List.mem_filter.1 hv).1
  have hll:(elemPl d vs).length≤4096:=D3 (DN _ _) (gd.few.at _).1
  have hpl:=fun i=>im gd vs i
  have hof:=qT hlu hlv hll
  have hln:=dA hlu
  have hmne: ∀i∈elemPl d vs,∃y,y∈vals (elemM d vs i):=fun i hi=>((hpl i).1 hi).2.2.2
  have hmay:elemMay d vs (elemPl d vs)≠[]:=fun e=>by
   obtain⟨i,hi⟩:=Dx _ hl
   obtain⟨y,hy⟩:=hmne i hi
   have:=(m2 y).2 ⟨i,hi,hy⟩
   rw[e]at this;cases this
  have hpk:cZ (elemPl d vs)≠[]:=fun e=>hl (by rw[←bI hlu,e];rfl)
  have hxx: ∀v x i y,y∈vals (elemM d vs i)→(v=vs.getD 1 0→x=y)→v=vs.getD 1 0→x∈vals (elemM d vs i):=fun v x i y hy e hv=>by rw[e hv];exact hy
  unfold rV
  rw[hof]
  generalize elemMay d vs (elemPl d vs)=may at*
  generalize hpe:elemPl d vs=l at*
  have hsz: ∀o:aa,(if l.length=1 then((d.set (vs.getD 0 0).toNat (cZ l)).set (vs.getD 1 0).toNat may).set (vs.getD ((l.getD 0 0).toNat+2) 0).toNat may else(d.set (vs.getD 0 0).toNat (cZ l)).set (vs.getD 1 0).toNat may)=o→o.length=d.length:=fun o e=>by rw[←e];split<;>simp
  generalize hO:(if l.length=1 then((d.set (vs.getD 0 0).toNat (cZ l)).set (vs.getD 1 0).toNat may).set (vs.getD ((l.getD 0 0).toNat+2) 0).toNat may else(d.set (vs.getD 0 0).toNat (cZ l)).set (vs.getD 1 0).toNat may)=out
  have hlen:=hsz out hO
  have hd0:=fun j (hj:j<vs.length)=>(hlin _ ((hmem _).2 (cX hj))).2
  have hi0:l.length=1→l.getD 0 0∈l:=fun e=>by rw[aN (by omega)];exact C5 _
  have hb0:l.length=1→(l.getD 0 0).toNat+2<vs.length:=fun e=>((hpl _).1 (hi0 e)).2.2.1
  have hat: ∀j,j<vs.length→domAt out (vs.getD j 0)=if j=0 then cZ l else if j=1 then may else if l.length=1∧j=(l.getD 0 0).toNat+2 then may else domAt d (vs.getD j 0):=fun j hj=>by
   rw[←hO]
   by_cases hl1:l.length=1
   ·rw[if_pos hl1,fC (by simp;exact hd0 _ (hb0 hl1)),fC (by simp;exact hd0 1 (by omega)),fC (hd0 0 (by omega))]
    by_cases c2:j=(l.getD 0 0).toNat+2
    ·rw[if_pos (by rw[c2]),if_neg (by omega),if_neg (by omega),if_pos ⟨hl1,c2⟩]
    ·rw[if_neg (dne _ _ (hb0 hl1) hj (Ne.symm c2)),if_neg (c:=l.length=1∧_) (fun h=>c2 h.2)]
     by_cases c1:j=1
     ·rw[if_pos (by rw[c1]),if_neg (by omega),if_pos c1]
     ·rw[if_neg (dne _ _ (by omega) hj (Ne.symm c1)),if_neg c1]
      by_cases c0:j=0
      ·rw[if_pos (by rw[c0]),if_pos c0]
      ·rw[if_neg (dne _ _ (by omega) hj (Ne.symm c0)),if_neg c0]
   ·rw[if_neg hl1,fC (by simp;exact hd0 1 (by omega)),fC (hd0 0 (by omega)),if_neg (c:=l.length=1∧_) (fun h=>hl1 h.1)]
    by_cases c1:j=1
    ·rw[if_pos (by rw[c1]),if_neg (by omega),if_pos c1]
    ·rw[if_neg (dne _ _ (by omega) hj (Ne.symm c1)),if_neg c1]
     by_cases c0:j=0
     ·rw[if_pos (by rw[c0]),if_pos c0]
     ·rw[if_neg (dne _ _ (by omega) hj (Ne.symm c0)),if_neg c0]
  have hms: ∀x∈out,x=cZ l∨x=may∨x∈d:=fun x hx=>by
   rw[←hO]at hx
   split at hx
   ·rcases CX hx with hx|hx
    ·rcases CX hx with hx|hx
     ·rcases CX hx with hx|hx
      ·exact .inr (.inr hx)
      ·exact .inl hx
     ·exact .inr (.inl hx)
    ·exact .inr (.inl hx)
   ·rcases CX hx with hx|hx
    ·rcases CX hx with hx|hx
     ·exact .inr (.inr hx)
     ·exact .inl hx
    ·exact .inr (.inl hx)
  rw[ny (out:=out) hnd hlin hlen (fun x hx=> ?_) (fun v hvm x=> ?_) (fun i hi=> ?_)]
  ·unfold mC
   rw[if_neg]
   intro hm
   rcases hms _ hm with e|e|e
   ·exact hpk e.symm
   ·exact hmay e.symm
   ·exact gd.some' e
  ·rcases hms x hx with rfl|rfl|hx
   ·exact fX hlu
   ·exact m1
   ·exact(gd.few.fine x hx).ok
  ·have hvc:=(hmem v).1 hvm
   rw[hS v hvc]
   have hj:vs.idxOf v<vs.length:=List.idxOf_lt_length_iff.2 hvc
   have hve:v=vs.getD (vs.idxOf v) 0:=by rw[aN hj,El]
   generalize vs.idxOf v=j at hj hve
   subst hve
   have hvi: ∀k,k<vs.length→(vs.getD j 0=vs.getD k 0↔j=k):=fun k hk=>⟨i7 hnod hj hk,fun e=>by rw[e]⟩
   rw[hat j hj]
   by_cases c0:j=0
   ·subst c0
    rw[if_pos rfl,bI hlu]
    constructor
    ·intro hx
     obtain⟨y,hy⟩:=hmne x hx
     obtain⟨a1,a2,a3,_⟩:=(hpl x).1 hx
     exact⟨x,y,hx,hy,a1,fun _=>rfl,fun e=>by rw[hvi 1 (by omega)]at e;omega,fun e=>by rw[hvi _ a3]at e;omega⟩
    ·rintro⟨i,y,hi,_,_,e,_⟩
     rw[e rfl];exact hi
   rw[if_neg c0]
   by_cases c1:j=1
   ·subst c1
    rw[if_pos rfl,m2]
    constructor
    ·rintro⟨i,hi,hx⟩
     obtain⟨a1,a2,a3,_⟩:=(hpl i).1 hi
     exact⟨i,x,hi,hx,(((d7 gd vs i).2 x).1 hx).2,fun e=>absurd ((hvi 0 (by omega)).1 e) (by omega),fun _=>rfl,fun e=>absurd ((hvi _ a3).1 e) (by omega)⟩
    ·rintro⟨i,y,hi,hy,_,_,e,_⟩
     exact⟨i,hi,by rw[e rfl];exact hy⟩
   rw[if_neg c1]
   by_cases hl1:l.length=1
   ·have hone: ∀i∈l,i=l.getD 0 0:=fun i hi=>by
     obtain⟨z,rfl⟩:=List.length_eq_one_iff.1 hl1
     rw[List.mem_singleton.1 hi];rfl
    by_cases c2:j=(l.getD 0 0).toNat+2
    ·rw[if_pos ⟨hl1,c2⟩,m2]
     constructor
     ·rintro⟨i,hi,hx⟩
      obtain⟨a1,a2,a3,_⟩:=(hpl i).1 hi
      have:=hone i hi
      exact⟨i,x,hi,hx,by have:=(((d7 gd vs i).2 x).1 hx).1;rw[c2,←hone i hi];exact this,fun e=>by rw[hvi 0 (by omega)]at e;omega,fun _=>rfl,fun _=>rfl⟩
     ·rintro⟨i,y,hi,hy,_,_,_,e⟩
      exact⟨i,hi,by rw[e (by rw[c2,hone i hi])];exact hy⟩
    ·rw[if_neg fun h=>c2 h.2]
     constructor
     ·intro hx
      obtain⟨y,hy⟩:=hmne _ (hi0 hl1)
      exact⟨_,y,hi0 hl1,hy,hx,fun e=>by rw[hvi 0 (by omega)]at e;omega,fun e=>by rw[hvi 1 (by omega)]at e;omega,fun e=>by rw[hvi _ (hb0 hl1)]at e;omega⟩
     ·rintro⟨i,y,_,_,hx,_⟩
      exact hx
   ·rw[if_neg fun h=>hl1 h.1]
    constructor
    ·intro hx
     have: ∃i∈l,i.toNat+2≠j:=by
      match l,hl,hl1,hln,hpl with
      | [],hl,_,_,_=>exact absurd rfl hl
      | [z],_,h1,_,_=>exact absurd rfl h1
      |z::t::_,_,_,hln,hpl=>
       by_cases e:z.toNat+2=j
       ·refine⟨t,.tail _ (.head _),fun e2=> ?_⟩
        have a1:=((hpl z).1 (.head _)).2.1
        have a2:=((hpl t).1 (.tail _ (.head _))).2.1
        have:z=t:=by omega
        rw[this]at hln
        exact(List.nodup_cons.1 hln).1 (.head _)
       ·exact⟨z,.head _,e⟩
     obtain⟨i,hi,hne⟩:=this
     obtain⟨y,hy⟩:=hmne i hi
     exact⟨i,y,hi,hy,hx,fun e=>by rw[hvi 0 (by omega)]at e;omega,fun e=>by rw[hvi 1 (by omega)]at e;omega,fun e=>by rw[hvi _ ((hpl i).1 hi).2.2.1]at e;omega⟩
    ·rintro⟨i,y,_,_,hx,_⟩
     exact hx
  ·have hni: ∀k,k<vs.length→(vs.getD k 0).toNat≠i:=fun k hk e=>hi (by
    rw[←e,EN (h0 _ (cX hk)).1];exact(hmem _).2 (cX hk))
   rw[←hO]
   by_cases hl1:l.length=1
   ·rw[if_pos hl1,D2 (hni _ (hb0 hl1)),D2 (hni 1 (by omega)),D2 (hni 0 (by omega))]
   ·rw[if_neg hl1,D2 (hni 1 (by omega)),D2 (hni 0 (by omega))]
set_option maxRecDepth 8000
theorem yC {l:List (Int×Int)}(h: ∀r∈l,-1048576≤r.2∧r.2≤1048576): ∀r∈joinG l,-1048576≤r.2∧r.2≤1048576:=by
 revert h
 refine snocInd (P:=fun l=>(∀r∈l,-1048576≤r.2∧r.2≤1048576)→∀r∈joinG l,-1048576≤r.2∧r.2≤1048576) (fun _ r hr=>by simp[joinG]at hr) (fun l x ih h=> ?_) l
 have ih:=ih fun r hr=>h r (D4 _ hr)
 have hx:=h x (D7 _ (.head _))
 rw[ie]
 rcases EE (joinG l)with e|⟨o,r,e⟩
 ·rw[e,jn]
  intro r hr
  rw[List.mem_singleton.1 hr];exact hx
 ·rw[e,E8]at ih⊢
  rw[ic]
  have hr:=ih r (D7 _ (.head _))
  split
  ·intro s hs
   rcases List.mem_append.1 hs with hs|hs
   ·exact ih s (D4 _ hs)
   ·rw[List.mem_singleton.1 hs];simp only;omega
  ·intro s hs
   rcases List.mem_append.1 hs with hs|hs
   ·exact ih s hs
   ·rw[List.mem_singleton.1 hs];exact hx
set_option maxHeartbeats 2000000 in
theorem wx (a b:List (Int×Int))(hl:(a.length+b.length+1)*16≤140737488355328)(hb: ∀r∈a++b,-1048576≤r.1∧r.1≤1048576∧-1048576≤r.2∧r.2≤1048576):
  Spec Tryz.prog 190 false [dm a,dm b] [.own 53 2 ((oO a b).map cR)]:=by
 refine Spec.body Tryz.func190 rfl rfl rfl fun w0 Z0=> ?_
 have hso:=nQ (l:=a++b) fun r hr=>by have:=hb r hr;omega
 have hspec:=sO (a++b) (by simp;omega) fun r hr=>by have:=hb r hr;omega
 have hsb: ∀r∈sortR (a++b),-1048576≤r.1∧r.1≤1048576∧-1048576≤r.2∧r.2≤1048576:=fun r hr=>hb r (hso.1.mem_iff.1 hr)
 have hsl:(sortR (a++b)).length=a.length+b.length:=by rw[hso.1.length_eq];simp
 show T _ _ _ _
 unfold oO
 generalize sortR (a++b)=l at*
 refine .B ?_
 refine .C (bQ a (by omega)) ?_
 refine .B ?_
 refine J.am (enc:=cR) (l:=a) (l2:=b) (B:=16) rfl rfl rfl rfl rfl rfl rfl rfl rfl rfl rfl rfl rfl rfl rfl rfl rfl (fun _=>rfl) rfl (by omega) ?_
 refine .B ?_
 refine J.cm rfl rfl rfl rfl rfl rfl rfl rfl rfl hspec rfl rfl rfl ?_
 refine .B ?_
 refine T.sub (Rel.own0 (s:=6) 53 2 rfl) ?_
 refine T.sub (Rel.flat (o:=1) rfl rQ) ?_
 refine T.K (T.list l (fun n pre post=>⟨[(6,.ref 0),(16,.ref 1),(17,.val true (.int .i64 (l.map cR).length)),(18,.val true (.int .i64 n))],[(0,some (.sl 53 2 true ((joinG pre).map cR))),(1,some (.sl 53 2 true (l.map cR)))],2⟩) (fun _ _ h=>h) ?_ ?_)
 ·rintro n pre ⟨x1,x2⟩ post h hn ih
  have hlt:=bY h hn
  have hpl:=yD pre
  have hpn:pre.length≤l.length:=by rw[h];simp
  have hx:=hsb (x1,x2) (by rw[h];simp)
  simp only at hx
  have hpb: ∀r∈joinG pre,-1048576≤r.2∧r.2≤1048576:=yC fun r hr=>by have:=hsb r (by rw[h];simp[hr]);omega
  rw[ie]at ih
  refine .B ?_
  refine T.ct2 rfl (bX h hn) ?_
  refine .B ?_
  refine J.io rfl rfl rfl rfl rfl rfl rfl rfl rfl (by omega) (by simp;omega) rfl ?_
  refine .B ?_
  refine J.lo rfl rfl rfl rfl rfl rfl (r:=cR (x1,x2)) (aS h hn) rfl ?_
  refine .B ?_
  refine .L ?_
  refine .W ?_
  refine .B ?_
  have hw1:=ak hlt (by omega)
  have hby:((joinG pre).length+1)*16≤140737488355328:=by omega
  generalize joinG pre=out at*
  rcases EE out with rfl|⟨o,⟨a,b⟩,rfl⟩
  ·rw[jn]at ih
   refine J.g rfl rfl rfl (fun h2=> ?_) (fun h2=> ?_)
   ·simp at h2
   refine .B ?_
   refine T.cf rfl ?_
   refine .B ?_
   refine .V ?_
   refine .B ?_
   refine J.aR rfl rfl rfl rfl rfl rfl rfl rfl rfl rfl rfl rfl rfl rfl rfl rfl rfl rfl rfl (by simp) ?_
   refine .B ?_
   rw[ak hlt (by omega)]
   exact T.K ih
  ·rw[E8]at*
   rw[ic]at ih
   have hab:=hpb (a,b) (by simp)
   simp only at hab
   have hw2:IntKind.i64.wrap (b+1)=b+1:=ae (by omega) (by omega)
   refine J.g rfl rfl rfl (fun h2=> ?_) (fun h2=> ?_)
   rotate_left
   ·simp at h2
   have hlw:IntKind.i64.wrap (((((o++[(a,b)]).map cR).length:Nat):Int)-1)=(o.length:Int):=by
    rw[C6,CW,ae]<;>simp at* <;>omega
   have hro:((o++[(a,b)]).map cR)[((o.length:Nat):Int).toNat]? =some (cR (a,b)):=by simp
   refine .B ?_
   rw[hlw]
   refine J.io rfl rfl rfl rfl rfl rfl rfl rfl rfl (Ek _) (by simp) rfl ?_
   refine .B ?_
   refine J.lo rfl rfl rfl rfl rfl rfl (r:=cR (a,b)) hro rfl ?_
   refine .B ?_
   rw[hw2]
   refine T.cd rfl (fun h3=> ?_) (fun h3=> ?_)
   ·rw[if_pos h3]at ih
    refine .B ?_
    refine T.rdw 12 rfl (by kernel_rfl) rfl ?_
    refine .B ?_
    rw[hlw]
    refine J.io rfl rfl rfl rfl rfl rfl rfl rfl rfl (Ek _) (by simp) rfl ?_
    refine .B ?_
    refine J.lo rfl rfl rfl rfl rfl rfl (r:=cR (a,b)) hro rfl ?_
    refine .B ?_
    refine⟨rfl,?_⟩
    refine J.io rfl rfl rfl rfl rfl rfl rfl rfl rfl (Ek _) (by simp) rfl ?_
    refine .B ?_
    refine J.w rfl rfl rfl rfl rfl rfl rfl rfl rfl (tc o a b (max b x2)) ?_
    refine .B ?_
    rw[hw1]
    exact T.K ih
   ·rw[if_neg h3]at ih
    refine .B ?_
    refine .V ?_
    refine .B ?_
    refine J.aR rfl rfl rfl rfl rfl rfl rfl rfl rfl rfl rfl rfl rfl rfl rfl rfl rfl rfl rfl (l:=o++[(a,b)]) (a:=x1) (b:=x2) hby ?_
    refine .B ?_
    rw[hw1]
    exact T.K ih
 ·refine .B ?_
  refine T.cf2 rfl bl ?_
  refine .B ?_
  exact⟨_,.o rfl rfl rfl (fun _=> .inl rfl) (by simp) .nil⟩
theorem mU {p:Int→Bool}{f:FuncId}(caps:List PV)(l:List Int)(hp: ∀v∈l,Spec Tryz.prog f false (.int .i64 v::caps) [.val (.bool (p v))])(hl:l.length*8≤140737488355328):Spec Tryz.prog 169 false [av l,.fn (.func f) [] caps] [.val (.int .i64 (indexP p l))]:=by
 refine Spec.body Tryz.func169 rfl rfl rfl fun w0 Z0=> ?_
 refine .B ?_
 refine T.K (T.listI l (fun pre=> ∀v∈pre,p v=false) (fun n pre post=>⟨[(0,.val false (av l)),(1,.val false (.fn (.func f) [] caps)),(7,.val true (.int .i64 (l.map cI).length)),(8,.val true (.int .i64 n))],[],0⟩) (fun _ _ h=>h) (fun v hv=>by cases hv) ?_ ?_)
 ·rintro n pre v post h hn hi ih
  have hlt:=bY h hn
  have hsp:=hp v (by rw[h];simp)
  refine .B ?_
  refine T.ct2 rfl (bX h hn) ?_
  refine .B ?_
  refine .I (r:=cI v) (aS h hn) ?_
  refine .B ?_
  refine .C hsp ?_
  refine .B ?_
  refine T.cond rfl (fun h2=> ?_) (fun h2=> ?_)
  ·have h2:p v=true:=h2
   refine .B ?_
   have e:indexP p l=(n:Int):=by
    unfold indexP
    rw[h,FC,List.findIdx?_eq_none_iff.2 (by simpa using hi),ET,if_pos h2]
    simp[hn]
   rw[e]
   exact r1
  ·have h2:p v=false:=h2
   refine .B ?_
   rw[ak hlt (by omega)]
   exact T.K (ih (by
    intro x hx
    rcases List.mem_append.1 hx with hx|hx
    ·exact hi x hx
    ·rw[List.mem_singleton.1 hx];exact h2))
 ·intro hi
  have e:indexP p l= -1:=by
   unfold indexP
   rw[List.findIdx?_eq_none_iff.2 (by simpa using hi)]
  rw[e]
  refine .B ?_
  refine T.cf2 rfl bl ?_
  refine .B ?_
  exact r1
theorem rO (p:Int→Bool)(l:List Int):(indexP p l= -1∧∀v∈l,p v=false)∨∃i:Nat,i<l.length∧indexP p l=(i:Int)∧p (l.getD i 0)=true∧∀v∈l.take i,p v=false:=by
 unfold indexP
 cases h:l.findIdx? p with
 |none=>exact .inl ⟨rfl,by simpa using List.findIdx?_eq_none_iff.1 h⟩
 |some i=>
  obtain⟨h1,h2,h3⟩:=List.findIdx?_eq_some_iff_getElem.1 h
  refine .inr ⟨i,h1,rfl,by rw[aN h1];exact h2,fun v hv=> ?_⟩
  obtain⟨j,hj⟩:=C9 hv
  have hjl:=(List.getElem?_eq_some_iff.1 hj).1
  have hji:j<i:=by simp at hjl;omega
  have:=h3 j hji
  rw[E5 hji,C1 (by omega)]at hj
  rw[←C2 hj]
  simpa using this
structure DelInv (p:Int→Bool)(l:List Int)(j:Nat)(L:List Int):Prop where
 len:L.length=l.length
 le:j≤l.length
 lt:((l.take j).filter fun x=> !p x).length<j
 tk:L.take ((l.take j).filter fun x=> !p x).length=(l.take j).filter fun x=> !p x
 dr:L.drop j=l.drop j
theorem DelInv.at {p:Int→Bool}{l L:List Int}{j:Nat}(h:DelInv p l j L)(hj:j<l.length):L.getD j 0=l.getD j 0:=by
 have h1:=h.dr
 have hL:=h.len
 rw[CU (by omega),CU hj]at h1
 rw[aN (by omega),aN hj]
 exact(List.cons.inj h1).1
theorem DelInv.step {p:Int→Bool}{l L:List Int}{j:Nat}(h:DelInv p l j L)(hj:j<l.length):
  (p (l.getD j 0)=true→DelInv p l (j+1) L∧((l.take (j+1)).filter fun x=> !p x).length=((l.take j).filter fun x=> !p x).length)∧
  (p (l.getD j 0)=false→DelInv p l (j+1) (L.set ((l.take j).filter fun x=> !p x).length (l.getD j 0))∧((l.take (j+1)).filter fun x=> !p x).length=((l.take j).filter fun x=> !p x).length+1):=by
 obtain⟨h1,h2,h3,h4,h5⟩:=h
 have ht:l.take (j+1)=l.take j++[l.getD j 0]:=by rw[C7 hj,aN hj]
 have hd:L.drop (j+1)=l.drop (j+1):=by
  have:=congrArg (List.drop 1) h5
  rwa[GD,GD]at this
 refine⟨fun hp=> ?_,fun hp=> ?_⟩
 ·have e:(l.take (j+1)).filter (fun x=> !p x)=(l.take j).filter fun x=> !p x:=by rw[C0]at hp;rw[ht,EV];simp[hp]
  exact⟨⟨h1,hj,by rw[e];omega,by rw[e];exact h4,hd⟩,by rw[e]⟩
 ·have e:(l.take (j+1)).filter (fun x=> !p x)=((l.take j).filter fun x=> !p x)++[l.getD j 0]:=by rw[C0]at hp;rw[ht,EV];simp[hp]
  refine⟨⟨by simpa using h1,hj,by rw[e];simp;omega,?_,?_⟩,by rw[e];simp⟩
  ·rw[e,CW,Db,C7 (by simp;omega),List.getElem_set_self,List.take_set_of_le (CS _),h4]
  ·rw[Fk (by omega)]
   exact hd
theorem rW {p:Int→Bool}{f:FuncId}(caps:List PV)(l:List Int)(hp: ∀v∈l,Spec Tryz.prog f false (.int .i64 v::caps) [.val (.bool (p v))])(hl:l.length*8≤140737488355328):
  SpecP Tryz.prog 187 [] [] 3 1 (l.map cI) [.fn (.func f) [] caps] ((l.filter fun x=> !p x).map cI):=by
 refine SpecP.body Tryz.func187 rfl rfl rfl (fun r hr q hq=>by obtain⟨x,_,rfl⟩:=List.mem_map.1 hr;simp[cI]at hq;rw[hq];rfl) fun w0 v0 Z1=> ?_
 have hix:=mU caps l hp hl
 have hcs:=rO p l
 generalize indexP p l=i0 at*
 refine .B ?_
 refine .C hix ?_
 refine .B ?_
 rcases hcs with ⟨rfl,hall⟩|⟨i,hi,rfl,hpi,hbe⟩
 ·refine T.ct rfl ?_
  refine .B ?_
  rw[List.filter_eq_self.2 (fun x hx=>by rw[hall x hx];rfl)]
  exact⟨4,0,rfl,rfl,rfl⟩
 ·refine T.cf2 rfl (decide_eq_false (by omega)) ?_
  have hf0:(l.take i).filter (fun x=> !p x)=l.take i:=List.filter_eq_self.2 (fun x hx=>by rw[hbe x hx];rfl)
  have hf1:(l.take (i+1)).filter (fun x=> !p x)=l.take i:=by
   rw[C0]at hpi;rw[C7 hi,EV,hf0,←aN hi];simp[hpi]
  have hinv:DelInv p l (i+1) l:=⟨rfl,hi,by rw[hf1];simp;omega,by rw[hf1];simp[DX (FT hi)],rfl⟩
  refine .B ?_
  rw[ak hi hl]
  refine T.K (T.ind (fun s:Nat×Nat×List Int=>⟨[(0,.ref 0),(1,.val false (.fn (.func f) [] caps)),(5,.val true (.int .i64 s.2.1)),(6,.val true (.int .i64 s.1))],[(0,some (.sl 3 1 true (s.2.2.map cI)))],1⟩)
   (fun s=>DelInv p l s.1 s.2.2∧s.2.1=((l.take s.1).filter fun x=> !p x).length) (fun s=>l.length-s.1) (i+1,i,l) ⟨hinv,by simp only;rw[hf1];simp;omega⟩ (fun _ _ h=>h) ?_)
  rintro⟨j,k,L⟩ ⟨hinv,hk⟩ ih
  simp only at hinv hk
  dsimp only
  have hle:=hinv.le
  have hlen:=hinv.len
  have hlt:=hinv.lt
  rw[←hk]at hlt
  refine .B ?_
  refine T.cd rfl (fun h6=> ?_) (fun h6=> ?_)
  ·have h6:j<l.length:=by simp at h6;omega
   have hrow:(L.map cI)[((j:Nat):Int).toNat]? =some (cI (l.getD j 0)):=by
    rw[←hinv.at h6,aN (by omega)];exact aO (by omega)
   obtain⟨hs1,hs2⟩:=hinv.step h6
   have hsp:=hp (l.getD j 0) (by rw[aN h6];exact C5 _)
   have hw1:IntKind.i64.wrap ((j:Int)+1)=((j+1:Nat):Int):=ak h6 hl
   have hw2:IntKind.i64.wrap ((k:Int)+1)=((k+1:Nat):Int):=ak (l:=l.length) (by omega) hl
   have ih1:=fun k2 L2 h1 h2=>ih (j+1,k2,L2) ⟨h1,h2⟩ (by show _-_<_-_;omega)
   rw[←hk]at hs1 hs2
   refine .B ?_
   refine J.io rfl rfl rfl rfl rfl rfl rfl rfl rfl (by omega) (by simp;omega) rfl ?_
   refine .B ?_
   refine J.lo rfl rfl rfl rfl rfl rfl (r:=cI (l.getD j 0)) hrow rfl ?_
   refine .B ?_
   refine .C hsp ?_
   refine .B ?_
   cases hpv:p (l.getD j 0)with
   |true=>
    obtain⟨a1,a2⟩:=hs1 hpv
    refine T.cf rfl ?_
    refine .B ?_
    rw[hw1]
    exact T.K (ih1 k L a1 a2.symm)
   |false=>
    obtain⟨a1,a2⟩:=hs2 hpv
    refine T.ct rfl ?_
    refine .B ?_
    refine J.io rfl rfl rfl rfl rfl rfl rfl rfl rfl (by omega) (by simp;omega) rfl ?_
    refine .B ?_
    refine J.w1 rfl rfl rfl rfl rfl rfl rfl rfl rfl rfl rfl (enc:=cI) (z:=l.getD j 0) (fun _=>rfl) (by simp;omega) ?_
    refine .B ?_
    rw[hw1,hw2]
    exact T.K (ih1 (k+1) _ a1 a2.symm)
  ·have h6:j=l.length:=by simp at h6;omega
   have htk:=hinv.tk
   subst h6
   rw[←hk]at htk
   rw[DE]at htk
   refine .B ?_
   refine J.clr (l:=L) k rfl rfl rfl rfl rfl rfl rfl (by omega) rfl rfl rfl (fun w=>by kernel_rfl) rfl rfl rfl rfl (fun _=>rfl) fun u=> ?_
   refine .B ?_
   refine J.cut (l:=L.take k++List.replicate (L.length-k) 0) k rfl rfl rfl rfl rfl rfl rfl (by simp;omega) rfl rfl ?_
   refine .B ?_
   rw[show(L.take k++List.replicate (L.length-k) (0:Int)).take k=l.filter fun x=> !p x by rw[EY (by simp;omega),F8,Nat.min_self,htk]]
   exact⟨4,1,rfl,rfl,rfl⟩
def clP (d:aa)(c:Con)(us t:List Int):Bool:=holdsR c (eA d.length us t us.length)
theorem xk {x k:Int}(hk:k=1∨k= -1):litH (x,k)=true↔x=dC k:=by
 rcases hk with rfl|rfl
 ·rw[Cr];simp[litH]
 ·rw[Cq];simp[litH]
theorem Bq {d:aa}{c:Con}(h:ClOk d c)(hk:c.kind=5)(f:Int→Int):clP d c (aV c.vars) ((aV c.vars).map f)=true↔∃p∈c.vars.zip c.coefs,f p.1=dC p.2:=by
 have hin: ∀u∈aV c.vars,0≤u∧u.toNat<d.length:=fun u hu=>h.vin u ((bJ u _).1 hu)
 have hat: ∀v∈c.vars,atR (eA d.length (aV c.vars) ((aV c.vars).map f) (aV c.vars).length) v=f v:=fun v hv=>lz f hin ((bJ v _).2 hv)
 have hp:pickedR c.vars (eA d.length (aV c.vars) ((aV c.vars).map f) (aV c.vars).length)=c.vars.map f:=DS fun v hv=>hat v hv
 unfold clP holdsR
 rw[if_neg (by omega),if_neg (by omega),if_neg (by omega),if_neg (by omega),if_neg (by omega),if_pos hk,hp,EJ]
 constructor
 ·rintro⟨q,hq,hl⟩
  obtain⟨i,hi⟩:=C9 hq
  rw[En]at hi
  obtain⟨h1,h2⟩:=hi
  rw[C8]at h1
  obtain⟨v,hv,e⟩:=Option.map_eq_some_iff.1 h1
  refine⟨(v,q.2),C4 (i:=i) (List.getElem?_zip_eq_some.2 ⟨hv,h2⟩),?_⟩
  rw[show q=(q.1,q.2)from rfl,xk (h.unit _ (C4 h2))]at hl
  rw[←hl,←e]
 ·rintro⟨p,hp,e⟩
  obtain⟨i,hi⟩:=C9 hp
  rw[En]at hi
  refine⟨(f p.1,p.2),C4 (i:=i) (List.getElem?_zip_eq_some.2 ⟨by rw[C8,hi.1];rfl,hi.2⟩),?_⟩
  rw[xk (h.unit _ (C4 hi.2))]
  exact e
theorem AI {c:Con}(hn:c.vars.Nodup){p q:Int×Int}(hp:p∈c.vars.zip c.coefs)(hq:q∈c.vars.zip c.coefs)(h:p.1=q.1):p=q:=by
 obtain⟨i,hi⟩:=C9 hp
 obtain⟨j,hj⟩:=C9 hq
 have e:i=j:=by
  rw[En]at hi hj
  obtain⟨h1,h2⟩:=List.getElem?_eq_some_iff.1 hi.1
  obtain⟨h3,h4⟩:=List.getElem?_eq_some_iff.1 hj.1
  exact(Ec hn).1 (h2.trans (h.trans h4.symm))
 subst e
 exact C2 (hi.symm.trans hj)
theorem uK {d:aa}{c:Con}(h:ClOk d c)(hk:c.kind=5)(hf: ∀x∈d,Fine x):lh d (aV c.vars) (clP d c (aV c.vars))=jA d c:=by
 have hus: ∀u,u∈aV c.vars↔u∈c.vars:=fun u=>bJ u _
 have hnd:(aV c.vars).Nodup:=dA (bZ _)
 have hin: ∀u∈aV c.vars,0≤u∧u.toNat<d.length:=fun u hu=>h.vin u ((hus u).1 hu)
 have hP:=Bq h hk
 have hpv: ∀p∈c.vars.zip c.coefs,p.1∈c.vars:=fun p hp=>(D5 hp).1
 have hlb: ∀p,litB d p=true↔dC p.2∈vals (domAt d p.1):=fun p=>dc
 unfold lh
 rw[wC h.len]
 by_cases hm: []∈d
 ·rw[if_pos hm,if_pos hm]
 rw[if_neg hm,if_neg hm]
 have hne: ∀v∈c.vars,∃x,x∈vals (domAt d v):=by
  intro v hv
  have hd:=hf _ (ah (h.vin v hv).2)
  have:domAt d v≠[]:=fun e=>hm (e▸ah (h.vin v hv).2)
  exact⟨_,fA hd.ok this⟩
 obtain⟨g,hg⟩: ∃g:Int→Int,∀v∈c.vars,g v∈vals (domAt d v):=⟨fun v=>ay (domAt d v),fun v hv=>fA (hf _ (ah (h.vin v hv).2)).ok fun e=>hm (e▸ah (h.vin v hv).2)⟩
 cases hL:(c.vars.zip c.coefs).filter (litB d)with
 |nil=>
  have hno: ∀p∈c.vars.zip c.coefs,litB d p=false:=fun p hp=>by
   have:=List.filter_eq_nil_iff.1 hL p hp
   simpa using this
  obtain⟨v,hv⟩: ∃v,v∈c.vars:=⟨c.vars[0]'h.pos,C5 _⟩
  have hvi:=h.vin v hv
  obtain⟨y,hy,hyd,hyv⟩:=(kL (P:=clP d c (aV c.vars)) hnd hin v.toNat).2 (by rw[EN hvi.1];exact(hus v).2 hv)
  have hy0:y=[]:=by
   refine(e6 hyd).1 (List.eq_nil_iff_forall_not_mem.2 fun x hx=> ?_)
   obtain⟨f,hf1,hf2,_⟩:=(hyv x).1 hx
   obtain⟨p,hp,e⟩:=(hP f).1 hf2
   have:=hf1 p.1 ((hus _).2 (hpv p hp))
   rw[e]at this
   have:=hno p hp
   rw[(hlb p).2 ‹_›]at this
   cases this
  subst hy0
  unfold mC
  rw[if_pos (C4 hy)]
  rfl
 |cons p l=>
  have hp:p∈c.vars.zip c.coefs∧litB d p=true:=List.mem_filter.1 (by rw[hL];exact .head _)
  have hpl:=(hlb p).1 hp.2
  have hpi:=h.vin _ (hpv p hp.1)
  have hpd:=hf _ (ah hpi.2)
  cases l with
  |nil=>
   obtain⟨hc1,hc2⟩:=bP hpd.ok (dC p.2) (dC p.2)
   have hcv: ∀x,x∈vals (domCut (domAt d p.1) (dC p.2) (dC p.2))↔x=dC p.2:=fun x=>by
    rw[hc2]
    constructor
    ·rintro⟨_,h1,h2⟩;omega
    ·rintro rfl;exact⟨hpl,by omega,by omega⟩
   have hcn:domCut (domAt d p.1) (dC p.2) (dC p.2)≠[]:=fun e=>by
    have:=(hcv (dC p.2)).2 rfl
    rw[e]at this
    cases this
   have honly: ∀q∈c.vars.zip c.coefs,litB d q=true→q=p:=fun q hq hb=>by
    have:q∈(c.vars.zip c.coefs).filter (litB d):=List.mem_filter.2 ⟨hq,hb⟩
    rw[hL]at this
    simpa using this
   have hkeep:clF d [p]=some (d.set p.1.toNat (domCut (domAt d p.1) (dC p.2) (dC p.2))):=by
    show dD d p.1 (dC p.2)=_
    unfold dD
    rw[if_neg hcn]
   rw[hkeep,ny (out:=d.set p.1.toNat (domCut (domAt d p.1) (dC p.2) (dC p.2))) hnd hin (by simp) ?_ ?_ ?_]
   ·unfold mC
    rw[if_neg fun hc=>hcn ((dJ hpi.2 hm).1 hc)]
   ·intro x hx
    rcases CX hx with hx|rfl
    ·exact(hf x hx).ok
    ·exact hc1
   ·intro v hv x
    have hvc:=(hus v).1 hv
    have hvi:=h.vin v hvc
    rw[fC hpi.2]
    by_cases e:p.1.toNat=v.toNat
    ·have e2:p.1=v:=by omega
     rw[if_pos e,hcv]
     subst e2
     constructor
     ·rintro rfl
      refine⟨fun u=>if u=p.1 then dC p.2 else g u,fun u hu=> ?_,(hP _).2 ⟨p,hp.1,if_pos rfl⟩,if_pos rfl⟩
      by_cases e3:u=p.1
      ·simp only[e3,if_true];exact hpl
      ·simp only[e3,if_false];exact hg u ((hus u).1 hu)
     ·rintro⟨f,hf1,hf2,rfl⟩
      obtain⟨q,hq,e3⟩:=(hP f).1 hf2
      have:=hf1 q.1 ((hus _).2 (hpv q hq))
      rw[e3]at this
      have:=honly q hq ((hlb q).2 this)
      subst this
      exact e3
    ·have e2:p.1≠v:=fun e2=>e (by rw[e2])
     rw[if_neg e]
     constructor
     ·intro hx
      refine⟨fun u=>if u=p.1 then dC p.2 else if u=v then x else g u,fun u hu=> ?_,(hP _).2 ⟨p,hp.1,if_pos rfl⟩,by simp only[Ne.symm e2,if_false,if_true]⟩
      by_cases e3:u=p.1
      ·simp only[e3,if_true];exact hpl
      ·by_cases e4:u=v
       ·subst e4;simp only[e3,if_false,if_true];exact hx
       ·simp only[e3,e4,if_false];exact hg u ((hus u).1 hu)
     ·rintro⟨f,hf1,_,rfl⟩
      exact hf1 v hv
   ·intro i hi
    rw[D2]
    rintro rfl
    exact hi (by rw[EN hpi.1];exact(hus _).2 (hpv p hp.1))
  |cons q l=>
   have hq:q∈c.vars.zip c.coefs∧litB d q=true:=List.mem_filter.1 (by rw[hL];exact .tail _ (.head _))
   have hql:=(hlb q).1 hq.2
   have hpq:p.1≠q.1:=by
    intro e
    have e2:=AI h.nod hp.1 hq.1 e
    have hz:(c.vars.zip c.coefs).Nodup:=by
     refine List.Pairwise.of_map (S:=(· ≠ ·)) Prod.fst (fun a b hne e=>hne (by rw[e])) ?_
     rw[List.map_fst_zip (by rw[h.len];exact CS _)]
     exact h.nod
    have:=hz.filter (litB d)
    rw[hL,e2]at this
    simp at this
   have hcl:clF d (p::q::l)=some d:=rfl
   rw[hcl,ny (out:=d) hnd hin rfl (fun x hx=>(hf x hx).ok) ?_ (fun _ _=>rfl)]
   ·unfold mC;rw[if_neg hm]
   ·intro v hv x
    constructor
    ·intro hx
     obtain⟨r,hr,hrv⟩: ∃r,(r∈c.vars.zip c.coefs∧dC r.2∈vals (domAt d r.1))∧r.1≠v:=by
      by_cases e:p.1=v
      ·exact⟨q,⟨hq.1,hql⟩,fun e2=>hpq (e.trans e2.symm)⟩
      ·exact⟨p,⟨hp.1,hpl⟩,e⟩
     refine⟨fun u=>if u=r.1 then dC r.2 else if u=v then x else g u,fun u hu=> ?_,(hP _).2 ⟨r,hr.1,if_pos rfl⟩,by simp only[Ne.symm hrv,if_false,if_true]⟩
     by_cases e3:u=r.1
     ·simp only[e3,if_true];exact hr.2
     ·by_cases e4:u=v
      ·subst e4;simp only[e3,if_false,if_true];exact hx
      ·simp only[e3,e4,if_false];exact hg u ((hus u).1 hu)
    ·rintro⟨f,hf1,_,rfl⟩
     exact hf1 v hv
abbrev jd:=List (Int×List Int)
def mpU (u:jd):Own:= .mp true none (u.map fun p=>(Value.int .i64 p.1,av p.2))
def iE (n:Nat)(o:bq):Option Nat:=(List.range n).find? fun i=>(lkA o (i:Int)).getD false
def ms (rows:List (List PV))(ua uu:Value):Own:= .box true [.sl rows,.raw ua,.raw uu]
theorem yo (rows:List (List PV))(o:bq)(uq ua uu:Value)(hl:rows.length≤4611686018427387904):
  SpecO Tryz.prog 104 false [uq,ua] [ms rows ua uu,mpS o] [.raw uq] [ms rows ua uu,mpS (match iE rows.length o with
   |some i=>dlA o (i:Int)
   |none=>o)] (fun _=>[]) (fun _=>[.int .i64 ((iE rows.length o).getD 0:Nat),.bool (iE rows.length o).isSome]):=by
 refine SpecO.body [1001,1002] [] Tryz.func104 rfl rfl rfl rfl fun w0 Z1=> ?_
 refine T.sub (Rel.derawp (s:=0) (g:=1001) rfl rfl rfl) ?_
 refine .B ?_
 refine T.K (T.ind (fun i:Nat=>⟨[(0,.optr 0 0 0 0),(9,.val true (.int .i64 rows.length)),(10,.val true (.int .i64 i)),(1001,.eq uq 0),(1002,.eq ua 1)],[(0,some (ms rows ua uu)),(1,some (mpS o))],2⟩)
  (fun i=>i≤rows.length∧∀j,j<i→(lkA o (j:Int)).getD false=false) (fun i=>rows.length-i) 0 ⟨by simp,fun j hj=>by omega⟩ (fun _ _ h=>h) ?_)
 rintro i ⟨hi,hb⟩ ih
 refine .B ?_
 refine T.cd rfl (fun h1=> ?_) (fun h1=> ?_)
 ·have h1:i<rows.length:=by simpa using h1
  refine .B ?_
  refine J.sub (Rel.deraw (s:=16) (g:=1002) rfl rfl) ?_
  refine .B ?_
  refine J.ml (i:Int) (.bool false) rfl rfl rfl rfl rfl rfl rfl rfl rfl za (fun _ _=> .bool _) (na Tryz.underlying3) (fun _ _ _ h=>c8 h) ?_
  have hmb:((lkA o (i:Int)).map PV.bool).getD (.bool false)= .bool ((lkA o (i:Int)).getD false):=by cases lkA o (i:Int)<;>rfl
  rw[hmb]
  by_cases hs:(lkA o (i:Int)).getD false=true
  ·have hn:iE rows.length o=some i:=by
    unfold iE
    rw[Er]
    exact⟨hs,by simpa using h1,fun j hj=>by simpa using hb j hj⟩
   rw[hn,hs]
   refine .B ?_
   refine T.ct rfl ?_
   refine .B ?_
   refine J.sub (Rel.deraw (s:=22) (g:=1002) rfl rfl) ?_
   refine .B ?_
   refine J.dl (i:Int) rfl rfl rfl rfl rfl rfl rfl rfl rfl rfl (na Tryz.underlying3) (fun _ _ _ h=>c8 h) ?_
   refine .B ?_
   exact⟨[0,1],[],[],⟨rfl,rfl,rfl,rfl,rfl,rfl,trivial⟩,trivial,rfl,.v rfl rfl rfl (fun _=>rfl) (.v rfl rfl rfl (fun _=>rfl) .nil)⟩
  ·rw[eq_false_of_ne_true hs]
   refine .B ?_
   refine T.cf rfl ?_
   refine .B ?_
   have hw:IntKind.i64.wrap ((i:Int)+1)=((i+1:Nat):Int):=by rw[ae (by omega) (by omega)];omega
   rw[hw]
   refine T.K (ih (i+1) ⟨by omega,fun j hj=> ?_⟩ (by omega))
   by_cases e:j=i
   ·subst e;exact eq_false_of_ne_true hs
   ·exact hb j (by omega)
 ·have h1:i=rows.length:=by simp at h1;omega
  subst h1
  have hn:iE rows.length o=none:=by
   unfold iE
   rw[Fq]
   intro j hj
   rw[hb j (List.mem_range.1 hj)]
   simp
  rw[hn]
  refine .B ?_
  exact⟨[0,1],[],[],⟨rfl,rfl,rfl,rfl,rfl,rfl,trivial⟩,trivial,rfl,.v rfl rfl rfl (fun _=>rfl) (.v rfl rfl rfl (fun _=>rfl) .nil)⟩
def eP (l:List Int)(o:bq):bq:=l.foldl (fun o i=>upA o i true) o
theorem Bx (w:World):(zeroValue 24).run Tryz.prog w= .ok (.slice none 0 0) w:=by kernel_rfl
theorem r8 (rows:List (List PV))(o:bq)(u:jd)(v:Int)(uq ua uu:Value)(hl: ∀p∈u,p.2.length*8≤140737488355328):
  SpecO Tryz.prog 107 false [uq,ua,uu] [ms rows ua uu,mpS o,mpU u] [.raw uq,.int .i64 v] [ms rows ua uu,mpS (eP ((lkA u v).getD []) o),mpU u] (fun _=>[]) (fun _=>[]):=by
 refine SpecO.body [1001,1002,1003] [] Tryz.func107 rfl rfl rfl rfl fun w0 Z1=> ?_
 refine T.sub (Rel.derawp (s:=0) (g:=1001) rfl rfl rfl) ?_
 refine T.sub (Rel.fine (s:=1) rfl rfl) ?_
 refine .B ?_
 refine J.sub (Rel.deraw (s:=9) (g:=1003) rfl rfl) ?_
 refine .B ?_
 refine J.ml v (.sl []) rfl rfl rfl rfl rfl rfl rfl rfl rfl Bx (fun _ _=> .nilsl) (na Tryz.underlying3) (fun _ _ _ h=>c8 h) ?_
 have hmb:((lkA u v).map av).getD (.sl [])=av ((lkA u v).getD []):=by cases lkA u v<;>rfl
 rw[hmb]
 have hll:((lkA u v).getD []).length*8≤140737488355328:=by
  cases h:lkA u v with
  |none=>simp
  |some l=>exact hl _ (eL h)
 generalize hL:(lkA u v).getD []=l at*
 generalize hR:eP l o=R
 refine .B ?_
 refine T.K (T.ind (fun x:Nat×bq=>⟨[(0,.optr 0 0 0 0),(11,.val true (av l)),(12,.val true (.int .i64 (l.map cI).length)),(13,.val true (.int .i64 x.1)),(1001,.eq uq 0),(1002,.eq ua 1),(1003,.eq uu 2)],[(0,some (ms rows ua uu)),(1,some (mpS x.2)),(2,some (mpU u))],3⟩)
  (fun x=>x.1≤l.length∧eP (l.drop x.1) x.2=R) (fun x=>l.length-x.1) (0,o) ⟨by simp,hR⟩ (fun _ _ h=>h) ?_)
 rintro⟨i,s⟩ ⟨hi,hR⟩ ih
 simp only at hi hR
 dsimp only
 refine .B ?_
 refine T.cd rfl (fun h1=> ?_) (fun h1=> ?_)
 ·have h1:i<l.length:=by simpa using h1
  rw[CU h1]at hR
  refine .B ?_
  refine .I (r:=cI l[i]) (aO h1) ?_
  refine .B ?_
  refine J.sub (Rel.deraw (s:=20) (g:=1002) rfl rfl) ?_
  refine .B ?_
  refine J.mu l[i] true rfl rfl rfl rfl rfl rfl rfl rfl rfl rfl rfl (na Tryz.underlying3) (fun _ _ _ h=>c8 h) rfl ?_
  refine .B ?_
  rw[ak (l:=l.length) h1 hll]
  exact T.K (ih (i+1,upA s l[i] true) ⟨by omega,hR⟩ (by show _-_<_-_;omega))
 ·have h1:i=l.length:=by simp at h1;omega
  subst h1
  rw[De]at hR
  obtain rfl:s=R:=hR
  refine .B ?_
  exact⟨[0,1,2],[],[],⟨rfl,rfl,rfl,rfl,rfl,rfl,rfl,rfl,rfl,trivial⟩,trivial,rfl,.nil⟩
abbrev rE:Value:= .slice none 0 0
def fvL (L:wP)(k:Int):Value:=(L.getD k.toNat (rE,[])).1
def eN (u:jd)(i:Int)(vs:List Int):jd:=vs.foldl (fun u v=>upA u v ((lkA u v).getD []++[i])) u
def cY:Nat→List Con→bq→jd→bq×jd
 |_,[],o,u=>(o,u)
 |i,c::cs,o,u=>cY (i+1) cs (upA o i true) (eN u i (usesR c))
def gr (cons:List Con):bq×jd:=cY 0 cons [] []
theorem xj {β γ:Type}(f:Int→γ)(a:Int): ∀u:List (Int×β),lkA (u.map fun p=>(p.1,f p.1)) a=(lkA u a).map fun _=>f a
 | []=>rfl
 |p::u=>by
  rw[CY,c5,c5,xj f a u]
  by_cases h:p.1=a
  ·simp[h]
  ·simp[h]
theorem wQ {β γ:Type}{f f':Int→γ}{a:Int}{y:γ}{x:β}(h2:f' a=y): ∀u:List (Int×β),(u.map (·.1)).Nodup→(∀p∈u,p.1≠a→f' p.1=f p.1)→upA (u.map fun p=>(p.1,f p.1)) a y=(upA u a x).map fun p=>(p.1,f' p.1)
 | [],_,_=>by simp[upA,fiA,h2]
 |p::u,hn,h1=>by
  have hn:=List.nodup_cons.1 hn
  rw[CY,gQ,gQ]
  by_cases h:p.1=a
  ·rw[if_pos h,if_pos h,CY,h2]
   congr 1
   refine DS fun q hq=> ?_
   have:q.1≠a:=fun e=>hn.1 (List.mem_map.2 ⟨q,hq,e.trans h.symm⟩)
   rw[h1 q (.tail _ hq) this]
  ·rw[if_neg h,if_neg h,CY,h1 p (.head _) h,wQ h2 u hn.2 fun q hq=>h1 q (.tail _ hq)]
theorem nh {β:Type}{a:Int}{x:β}: ∀u:List (Int×β),(u.map (·.1)).Nodup→((upA u a x).map (·.1)).Nodup
 | [],_=>by simp[upA,fiA]
 |p::u,hn=>by
  have hn2:=List.nodup_cons.1 hn
  rw[gQ]
  by_cases h:p.1=a
  ·rw[if_pos h]
   have e:((a,x)::u).map (·.1)=(p::u).map (·.1):=by simp[h]
   rw[e];exact hn
  ·rw[if_neg h,CY]
   refine List.nodup_cons.2 ⟨fun hm=> ?_,nh u hn2.2⟩
   obtain⟨q,hq,e⟩:=List.mem_map.1 hm
   rcases mem_upA hq with hq|rfl
   ·exact hn2.1 (List.mem_map.2 ⟨q,hq,e⟩)
   ·exact h e.symm
theorem qw {β:Type}: ∀{u:List (Int×β)},(u.map (·.1)).Nodup→∀{p:Int×β},p∈u→lkA u p.1=some p.2
 |q::u,hn,p,hp=>by
  have hn2:=List.nodup_cons.1 hn
  rw[c5]
  rcases List.mem_cons.1 hp with rfl|hp
  ·rw[if_pos rfl]
  ·have:q.1≠p.1:=fun e=>hn2.1 (List.mem_map.2 ⟨p,hp,e.symm⟩)
   rw[if_neg this]
   exact qw hn2.2 hp
structure UsOk (N t:Nat)(u:jd)(L:wP):Prop where
 rows:L.map (·.2)=(List.range N).map fun k:Nat=>((lkA u (k:Int)).getD []).map cI
 nil: ∀k:Nat,lkA u (k:Int)=none→(L.getD k (rE,[])).1=rE
 nod:(u.map (·.1)).Nodup
 ks: ∀p∈u,0≤p.1∧p.1.toNat<N
 len: ∀p∈u,p.2.length≤t
theorem UsOk.at {N t:Nat}{u:jd}{L:wP}(h:UsOk N t u L){k:Nat}(hk:k<N): ∃v,L[k]? =some (v,((lkA u (k:Int)).getD []).map cI)∧fvL L k=v:=by
 have e:(L.map (·.2))[k]? =some (((lkA u (k:Int)).getD []).map cI):=by rw[h.rows,C8,Du hk];rfl
 rw[C8]at e
 obtain⟨p,hp,e2⟩:=Option.map_eq_some_iff.1 e
 refine⟨p.1,by rw[hp,←e2],?_⟩
 unfold fvL
 rw[D1,C0,hp];rfl
theorem UsOk.put {N t:Nat}{u:jd}{L:wP}(h:UsOk N t u L){v i:Int}(h0:0≤v)(hv:v.toNat<N)(u':Value):
  UsOk N (t+1) (upA u v ((lkA u v).getD []++[i])) (L.set v.toNat (u',((lkA u v).getD []++[i]).map cI))∧
  upA (u.map fun p=>(p.1,fvL L p.1)) v u'=(upA u v ((lkA u v).getD []++[i])).map fun p=>(p.1,fvL (L.set v.toNat (u',((lkA u v).getD []++[i]).map cI)) p.1):=by
 have hL:L.length=N:=by have:=congrArg List.length h.rows;simpa using this
 have ev:((v.toNat:Nat):Int)=v:=by omega
 have hlen:((lkA u v).getD []).length≤t:=by
  cases hc:lkA u v with
  |none=>simp
  |some l=>exact h.len _ (eL hc)
 refine⟨⟨?_,fun k hk=> ?_,nh u h.nod,fun p hp=> ?_,fun p hp=> ?_⟩,wQ ?_ u h.nod fun p hp hne=> ?_⟩
 ·rw[FU,h.rows,x7]
  refine DS fun j _=> ?_
  rw[k8]
  by_cases e:j=v.toNat
  ·rw[if_pos e,if_pos (by omega)];rfl
  ·rw[if_neg e,if_neg (by omega)]
 ·rw[k8]at hk
  split at hk
  ·cases hk
  ·rename_i hne
   rw[C0,D2 (by omega),←C0]
   exact h.nil k hk
 ·rcases mem_upA hp with hp|rfl
  ·exact h.ks p hp
  ·exact⟨h0,hv⟩
 ·rcases mem_upA hp with hp|rfl
  ·have:=h.len p hp;omega
  ·simp;omega
 ·unfold fvL
  rw[C0,DH (by omega)];rfl
 ·have:=h.ks p hp
  unfold fvL
  rw[C0,D2 (by omega),←C0]
def cN (cons:List Con):PV:= .sl (cons.map cC)
def mpR (u:jd)(L:wP):Own:= .mp true none ((u.map fun p=>(p.1,fvL L p.1)).map fun p=>(Value.int .i64 p.1,PV.raw p.2))
theorem wH (cons:List Con)(N:Nat)(hc: ∀c∈cons,ConB c)(hN: ∀c∈cons,∀v∈usesR c,0≤v∧v.toNat<N)(hl:cons.length*128≤140737488355328)(hM:((cons.map fun c=>(usesR c).length).sum+1)*8≤140737488355328):
  SpecO Tryz.prog 103 true [] [] [cN cons] [] (fun ns=>[ms (cons.map cC) (ns.getD 1 undef) (ns.getD 2 undef),mpS (gr cons).1,mpU (gr cons).2]) (fun ns=>[.raw (ns.getD 0 undef)]):=by
 refine SpecO.body [] [1001,1002,1003] Tryz.func103 rfl rfl rfl rfl fun w0 Z1=> ?_
 generalize hM2:(cons.map fun c=>(usesR c).length).sum=M at hM
 generalize hR:gr cons=R
 refine .B ?_
 refine J.mm rfl rfl rfl rfl ?_
 refine J.mm rfl rfl rfl rfl ?_
 refine J.name 1002 (s:=9) rfl rfl rfl fun ua=> ?_
 refine J.name 1003 (s:=10) rfl rfl rfl fun uu=> ?_
 refine J.sub (Rel.raw (s:=9) (g:=1002) rfl (.inl rfl) rfl rfl rfl) ?_
 refine J.sub (Rel.raw (s:=10) (g:=1003) rfl (.inl rfl) rfl rfl rfl) ?_
 refine .B ?_
 refine T.sub (fun a w h=>Rel.fam0 N 3 1 h) ?_
 refine T.nameO 1004 3 rfl rfl fun U0=> ?_
 refine T.name 1001 (s:=3) rfl rfl rfl fun uq=> ?_
 have hcl:(cons.map cC).length=cons.length:=C6 ..
 refine T.K (T.ind (fun x:Nat×bq×jd×Value×wP=>⟨[(3,.optr 0 0 0 0),(13,.val true (cN cons)),(14,.val true (.int .i64 (cons.map cC).length)),(15,.val true (.int .i64 x.1)),(1001,.eq uq 0),(1002,.eq ua 1),(1003,.eq uu 2),(1004,.eq x.2.2.2.1 3)],[(0,some (ms (cons.map cC) ua uu)),(1,some (mpS x.2.1)),(2,some (mpR x.2.2.1 x.2.2.2.2)),(3,some (.fam 3 1 true x.2.2.2.2))],4⟩)
  (fun x=>x.1≤cons.length∧cY x.1 (cons.drop x.1) x.2.1 x.2.2.1=R∧∃t,UsOk N t x.2.2.1 x.2.2.2.2∧t+((cons.drop x.1).map fun c=>(usesR c).length).sum≤M) (fun x=>cons.length-x.1) (0,[],[],U0,List.replicate N (rE,[]))
  ⟨by simp,hR,0,⟨by simp[List.map_const',vY],fun k hk=> ?_,.nil,by simp,by simp⟩,by simp[hM2]⟩ (fun _ _ h=>h) ?_)
 ·show((List.replicate N ((rE,[]):Value×List (List PV))).getD k (rE,[])).1=rE
  rw[C0]
  cases hk:(List.replicate N ((rE,[]):Value×List (List PV)))[k]? with
  |none=>rfl
  |some p=>rw[Ep (C4 hk)];rfl
 rintro⟨i,o,u,U,L⟩ ⟨hi,hR,t,hu,ht⟩ ih
 simp only at hi hR hu ht
 dsimp only
 refine .B ?_
 refine T.cd rfl (fun h1=> ?_) (fun h1=> ?_)
 ·have h1:i<cons.length:=by simpa using h1
  have hrow:(cons.map cC)[((i:Nat):Int).toNat]? =some (cC cons[i]):=by simp[h1]
  have hcb:=hc _ (C5 h1)
  have hin:=hN _ (C5 h1)
  have hus:=vR cons[i] hcb
  rw[CU h1]at hR ht
  rw[cY]at hR
  simp only[CY,Dg]at ht
  generalize cons[i]=c at*
  generalize usesR c=vs at*
  refine .B ?_
  refine .I (r:=cC c) hrow ?_
  refine .B ?_
  refine .L ?_
  refine .B ?_
  refine .W ?_
  refine .B ?_
  refine J.sub (Rel.deraw (s:=23) (g:=1002) rfl rfl) ?_
  refine .B ?_
  refine J.mu (i:Int) true rfl rfl rfl rfl rfl rfl rfl rfl rfl rfl rfl (na Tryz.underlying3) (fun _ _ _ h=>c8 h) rfl ?_
  refine .B ?_
  refine .C hus.frz ?_
  refine .B ?_
  generalize hu1:eN u i vs=u1 at hR
  generalize hrest:((cons.drop (i+1)).map fun c=>(usesR c).length).sum=rest at ht
  refine T.K (T.ind (fun x:Nat×jd×Value×wP=>⟨[(3,.optr 0 0 0 0),(4,.val true (.int .i64 i)),(13,.val true (cN cons)),(14,.val true (.int .i64 (cons.map cC).length)),(15,.val true (.int .i64 i)),(26,.val true (av vs)),(27,.val true (.int .i64 (vs.map cI).length)),(28,.val true (.int .i64 x.1)),(1001,.eq uq 0),(1002,.eq ua 1),(1003,.eq uu 2),(1004,.eq x.2.2.1 3)],[(0,some (ms (cons.map cC) ua uu)),(1,some (mpS (upA o (i:Int) true))),(2,some (mpR x.2.1 x.2.2.2)),(3,some (.fam 3 1 true x.2.2.2))],4⟩)
   (fun x=>x.1≤vs.length∧eN x.2.1 i (vs.drop x.1)=u1∧∃t,UsOk N t x.2.1 x.2.2.2∧t+(vs.length-x.1)+rest≤M) (fun x=>vs.length-x.1) (0,u,U,L) ⟨by simp,hu1,t,hu,by simp;omega⟩ (fun _ _ h=>h) ?_)
  rintro⟨j,u,U,L⟩ ⟨hj,hu1,t,hu,ht⟩ ih2
  simp only at hj hu1 hu ht
  dsimp only
  refine .B ?_
  refine T.cd rfl (fun h2=> ?_) (fun h2=> ?_)
  ·have h2:j<vs.length:=by simpa using h2
   have hv:=hin _ (C5 h2)
   have hvr:(vs.map cI)[((j:Nat):Int).toNat]? =some (cI vs[j]):=aO h2
   rw[CU h2]at hu1
   generalize vs[j]=v at*
   obtain⟨uk,hk,hfv⟩:=hu.at hv.2
   have ev:((v.toNat:Nat):Int)=v:=by omega
   rw[ev]at hk hfv
   have hpu:=fun u'=>hu.put (i:=(i:Int)) hv.1 hv.2 u'
   have hkl:((lkA u v).getD []).length≤t:=by
    cases hc:lkA u v with
    |none=>simp
    |some l=>exact hu.len _ (eL hc)
   have hval:((lkA (u.map fun p=>(p.1,fvL L p.1)) v).map fun x=>PV.raw x)=some (.raw uk)∨(lkA (u.map fun p=>(p.1,fvL L p.1)) v=none∧rE=uk):=by
    rw[xj]
    cases hc:lkA u v with
    |some l=>exact .inl (by simp[hfv])
    |none=>
     refine .inr ⟨rfl,?_⟩
     have:=hu.nil v.toNat (by rw[ev];exact hc)
     rw[C0,hk]at this
     exact this.symm
   generalize hold:((lkA u v).getD []:List Int)=old at*
   refine .B ?_
   refine .I (r:=cI v) hvr ?_
   refine .M ?_
   refine T.sub (fun a w h=>Rel.split 1005 v.toNat (q:=3) rfl rfl hk h) ?_
   refine T.rdw 14 rfl (by kernel_rfl) rfl ?_
   iterate 8 refine J.H rfl ?_
   refine J.lr 1003 (q:=2) (u:=uu) rfl rfl rfl rfl rfl rfl rfl rfl rfl ?_
   refine J.H rfl ?_
   refine J.lm 1005 v rfl rfl rfl rfl rfl rfl rfl rfl rfl Bx (na Tryz.underlying3) (fun _ _ _ h=>c8 h) hval rfl rfl ?_
   refine J.H rfl ?_
   refine .V ?_
   refine J.ad rfl rfl rfl rfl rfl rfl rfl rfl rfl rfl rfl rfl rfl rfl rfl rfl rfl rfl (cB rfl) (by show(List.length _+1)*8≤_;simp;omega) ?_
   refine J.nil ⟨rfl,?_⟩
   refine J.name 1006 (s:=45) rfl rfl rfl fun u'=> ?_
   refine J.sub (Rel.raw (s:=45) (g:=1006) rfl (.inl rfl) rfl rfl rfl) ?_
   refine J.sub (Rel.deraw (s:=35) (g:=1003) rfl rfl) ?_
   refine J.mu v u' rfl rfl rfl rfl rfl rfl rfl rfl rfl rfl rfl (na Tryz.underlying3) (fun _ _ _ h=>c8 h) rfl ?_
   refine J.sub (fun a w h=>Rel.join v.toNat (g:=1006) (q:=5) (n:=6) (rows:=(old++[(i:Int)]).map cI) rfl (by rw[DF];rfl) rfl rfl h) ?_
   refine J.nil ?_
   refine T.nameO 1004 7 rfl rfl fun U3=> ?_
   refine .B ?_
   rw[ak (l:=vs.length) h2 (by omega),List.set_set,(hpu u').2]
   have hih:=ih2 (j+1,upA u v (old++[(i:Int)]),U3,L.set v.toNat (u',(old++[(i:Int)]).map cI)) ⟨by omega,by rw[←hu1,←hold];rfl,t+1,(hpu u').1,by show t+1+(vs.length-(j+1))+rest≤M;omega⟩ (by show _-_<_-_;omega)
   exact T.K hih
  ·have h2:j=vs.length:=by simp at h2;omega
   subst h2
   rw[De]at hu1
   obtain rfl:u=u1:=hu1
   refine .B ?_
   rw[ak (l:=cons.length) h1 (by omega)]
   have hih:=ih (i+1,upA o (i:Int) true,u,U,L) ⟨by omega,hR,t,hu,by show t+((cons.drop (i+1)).map fun c=>(usesR c).length).sum≤M;omega⟩ (by show _-_<_-_;omega)
   exact T.K hih
 ·have h1:i=cons.length:=by simp at h1;omega
  subst h1
  rw[De,cY]at hR
  subst hR
  have hin: ∀p∈u.map fun p=>(Value.int .i64 p.1,fvL L p.1,p.2.map cI),p.2∈L:=by
   intro p hp
   obtain⟨q,hq,rfl⟩:=List.mem_map.1 hp
   have hks:=hu.ks q hq
   obtain⟨v,h1,h2⟩:=hu.at hks.2
   have ev:((q.1.toNat:Nat):Int)=q.1:=by omega
   rw[ev]at h1 h2
   have hlk:lkA u q.1=some q.2:=by
    obtain⟨i,hi⟩:=C9 hq
    exact qw hu.nod hq
   rw[hlk]at h1
   simp only[h2]
   exact C4 h1
  have hmp:mpR u L= .mp true none ((u.map fun p=>(Value.int .i64 p.1,fvL L p.1,p.2.map cI)).map fun p=>(p.1,PV.raw p.2.1)):=by
   unfold mpR
   rw[Dz,Dz];rfl
  refine T.sub (fun a w h=>Rel.meltM (qc:=2) (q:=3) (e:=3) (sz:=1) (frc:=true) (fr:=true) (b:=none) (L:=L) (u.map fun p=>(Value.int .i64 p.1,fvL L p.1,p.2.map cI)) hin (fun b h=>by obtain⟨u,hu,_⟩:=h;cases hu) (by exact congrArg some hmp) rfl rfl h) ?_
  refine T.sub (Rel.raw (s:=3) (g:=1001) rfl (.inr rfl) rfl rfl rfl) ?_
  rw[show((u.map fun p=>(Value.int .i64 p.1,fvL L p.1,p.2.map cI)).map fun p=>(p.1,PV.sl p.2.2))=u.map fun p=>(Value.int .i64 p.1,av p.2)from by rw[Dz];rfl]
  refine .B ?_
  exact⟨[],[0,1,2],[uq,ua,uu],trivial,⟨rfl,rfl,rfl,rfl,rfl,rfl,rfl,rfl,rfl,trivial⟩,rfl,.v rfl rfl rfl (fun _=>rfl) .nil⟩
def cJ (o:bq)(j:Nat):Bool:=(lkA o (j:Int)).getD false
theorem oz (c:Int): ∀(l:List Int) (o:bq),lkA (eP l o) c=if c∈l then some true else lkA o c
 | [],o=>by simp[eP]
 |x::l,o=>by
  have:=oz c l (upA o x true)
  rw[show eP (x::l) o=eP l (upA o x true)from rfl,this,k8]
  by_cases h:c∈l
  ·rw[if_pos h,if_pos (.tail _ h)]
  ·rw[if_neg h]
   by_cases e:x=c
   ·rw[if_pos e,if_pos (by rw[e];exact .head _)]
   ·rw[if_neg e,if_neg (fun hm=>(List.mem_cons.1 hm).elim (fun h2=>e h2.symm) h)]
theorem mN: ∀(l:List Int) (o:bq),(o.map (·.1)).Nodup→((eP l o).map (·.1)).Nodup
 | [],o,h=>h
 |x::l,o,h=>mN l (upA o x true) (nh o h)
theorem xA {β:Type}(p:Int×β)(l:List (Int×β))(a:Int):dlA (p::l) a=if p.1=a then l else p::dlA l a:=by
 unfold dlA
 rw[rR]
 by_cases h:p.1=a
 ·rw[if_pos h,if_pos h];rfl
 ·rw[if_neg h,if_neg h]
  cases fiA l a<;>simp
theorem Ay {β:Type}(a:Int): ∀l:List (Int×β),(dlA l a).Sublist l
 | []=>by simp[dlA,fiA]
 |p::l=>by
  rw[xA]
  split
  ·exact List.sublist_cons_self _ _
  ·exact(Ay a l).cons_cons p
theorem BF {β:Type}(a c:Int): ∀l:List (Int×β),(l.map (·.1)).Nodup→lkA (dlA l a) c=if a=c then none else lkA l c
 | [],_=>by simp[dlA,fiA,vY]
 |p::l,hn=>by
  have hn2:=List.nodup_cons.1 hn
  have hno:p.1=c→lkA l c=none:=fun e=>by
   cases h:lkA l c with
   |none=>rfl
   |some b=>exact absurd (List.mem_map.2 ⟨(c,b),eL h,e.symm⟩) hn2.1
  rw[xA]
  by_cases h:p.1=a
  ·rw[if_pos h,c5]
   by_cases e:a=c
   ·rw[if_pos e];exact hno (h.trans e)
   ·rw[if_neg e,if_neg (fun h2=>e (h.symm.trans h2))]
  ·rw[if_neg h,c5,c5,BF a c l hn2.2]
   by_cases e:p.1=c
   ·rw[if_pos e,if_pos e,if_neg (fun h2=>h (e.trans h2.symm))]
   ·rw[if_neg e,if_neg e]
theorem nH (i c:Int): ∀(vs:List Int) (u:jd),vs.Nodup→(lkA (eN u i vs) c).getD []=if c∈vs then(lkA u c).getD []++[i]else(lkA u c).getD []
 | [],u,_=>by simp[eN]
 |v::vs,u,hn=>by
  have hn2:=List.nodup_cons.1 hn
  rw[show eN u i (v::vs)=eN (upA u v ((lkA u v).getD []++[i])) i vs from rfl,nH i c vs _ hn2.2,k8]
  by_cases e:v=c
  ·subst e
   rw[if_neg hn2.1,if_pos rfl,if_pos (.head _)];rfl
  ·rw[if_neg e]
   by_cases h:c∈vs
   ·rw[if_pos h,if_pos (.tail _ h)]
   ·rw[if_neg h,if_neg (fun hm=>(List.mem_cons.1 hm).elim (fun h2=>e h2.symm) h)]
theorem pk: ∀(cons:List Con) (i:Nat) (o:bq) (u:jd),(o.map (·.1)).Nodup→
  (((cY i cons o u).1).map (·.1)).Nodup∧(∀j,cJ (cY i cons o u).1 j=if i≤j∧j<i+cons.length then true else cJ o j)∧
  ∀(v x:Int),x∈(lkA (cY i cons o u).2 v).getD []↔x∈(lkA u v).getD []∨∃k c,cons[k]? =some c∧v∈usesR c∧x=((i+k:Nat):Int)
 | [],i,o,u,h=>⟨h,fun j=>by rw[if_neg (by simp)];rfl,fun v x=>by simp[cY]⟩
 |c::cons,i,o,u,h=>by
  obtain⟨h1,h2,h3⟩:=pk cons (i+1) (upA o i true) (eN u i (usesR c)) (nh o h)
  refine⟨h1,fun j=> ?_,fun v x=> ?_⟩
  ·have e1:cJ (upA o i true) j=if i=j then true else cJ o j:=by
    unfold cJ
    rw[k8]
    by_cases e:i=j
    ·rw[if_pos e,if_pos (by omega)];rfl
    ·rw[if_neg e,if_neg (by omega)]
   rw[cY,h2 j,e1]
   by_cases e:i=j
   ·rw[if_pos e,ite_self,if_pos (by simp;omega)]
   ·rw[if_neg e]
    by_cases hj:i+1≤j∧j<i+1+cons.length
    ·rw[if_pos hj,if_pos (by simp;omega)]
    ·rw[if_neg hj,if_neg (by simp;omega)]
  ·rw[cY,h3 v x,nH _ _ (usesR c) u (dA (bZ _))]
   constructor
   ·rintro(hx|⟨k,c',h4,h5,h6⟩)
    ·split at hx
     ·rename_i hv
      rcases List.mem_append.1 hx with hx|hx
      ·exact .inl hx
      ·exact .inr ⟨0,c,rfl,hv,by rw[List.mem_singleton.1 hx];rfl⟩
     ·exact .inl hx
    ·exact .inr ⟨k+1,c',by simpa using h4,h5,by rw[h6];congr 1;omega⟩
   ·rintro(hx|⟨k,c',h4,h5,h6⟩)
    ·refine .inl ?_
     split
     ·exact D4 _ hx
     ·exact hx
    ·cases k with
     |zero=>
      simp at h4
      subst h4
      rw[if_pos h5]
      exact .inl (D7 _ (by rw[h6];exact .head _))
     |succ k=>exact .inr ⟨k,c',by simpa using h4,h5,by rw[h6];congr 1;omega⟩
theorem mB {t:Nat}(i:Int): ∀(vs:List Int) (u:jd),(∀p∈u,p.2.length≤t)→∀p∈eN u i vs,p.2.length≤t+vs.length
 | [],u,h,p,hp=>h p hp
 |v::vs,u,h,p,hp=>by
  have:=mB (t:=t+1) i vs (upA u v ((lkA u v).getD []++[i])) (fun q hq=>by
   rcases mem_upA hq with hq|rfl
   ·have:=h q hq;omega
   ·have:((lkA u v).getD []).length≤t:=by
     cases hc:lkA u v with
     |none=>simp
     |some l=>exact h _ (eL hc)
    simp;omega) p hp
  simp;omega
theorem q9: ∀(cons:List Con) (i t:Nat) (o:bq) (u:jd),(∀p∈u,p.2.length≤t)→∀p∈(cY i cons o u).2,p.2.length≤t+(cons.map fun c=>(usesR c).length).sum
 | [],i,t,o,u,h,p,hp=>by simpa[cY]using h p hp
 |c::cons,i,t,o,u,h,p,hp=>by
  have:=q9 cons (i+1) (t+(usesR c).length) (upA o i true) (eN u i (usesR c)) (mB _ _ _ h) p hp
  simp only[CY,Dg]
  omega
def AllEnds (cons:List Con)(d:aa)(R:Option aa):Prop:=ej leD (GoodD d.length) bK cons d R
open Classical in
noncomputable def fS (cons:List Con)(d:aa):Option aa:=if h: ∃R:Option aa,AllEnds cons d R then h.choose else none
theorem fu {cons:List Con}{d:aa}{R:Option aa}(h:AllEnds cons d R):R=fS cons d:=by
 have hex: ∃R:Option aa,AllEnds cons d R:=⟨R,h⟩
 unfold fS
 rw[dif_pos hex]
 exact ej.one (aZ d.length) (fun _=>Iff.rfl) h hex.choose_spec
theorem wL {cons:List Con}{d:aa}(h: []∈d):fS cons d=none:=by
 refine(fu (R:=none) ?_).symm
 rintro⟨e,ge,hle,_⟩
 obtain⟨j,hj⟩:=C9 h
 have hjl:=(List.getElem?_eq_some_iff.1 hj).1
 obtain⟨x,hx⟩:=ge.ne (v:=(j:Int)) (by simpa using hjl)
 have:=hle.2 j x (by omega) hx
 unfold domAt at this
 rw[C0,D1,hj]at this
 cases this
theorem leD.sub {n:Nat}{a b:aa}(ga:GoodD n a)(gb:GoodD n b)(h:leD a b):Sub a b:=by
 refine⟨h.1,fun i x y hx hy v hv=> ?_⟩
 have h1:domAt a (i:Int)=x:=by
  unfold domAt;rw[C0,D1,hx];rfl
 have h2:domAt b (i:Int)=y:=by
  unfold domAt;rw[C0,D1,hy];rfl
 have:=h.2 (i:Int) v (by omega) (by rw[h1];exact hv)
 rwa[h2]at this
theorem gv {n:Nat}{a b:aa}(ga:GoodD n a)(gb:GoodD n b)(h:leD a b):weight a≤weight b∧(a≠b→weight a<weight b):=jg (leD.sub ga gb h) ga.few.fine gb.few.fine
def wB (m:Nat)(o:bq):Nat:=((List.range m).filter (cJ o)).length
theorem Bo (m:Nat)(o:bq):wB m o≤m:=by
 have:=DN (cJ o) (List.range m)
 simpa[wB]using this
structure QInv (cons:List Con)(d:aa)(x:aa×bq):Prop where
 come:Come leD (GoodD d.length) bK cons d x.1
 nod:(x.2.map (·.1)).Nodup
 shut: ∀(j:Nat) c,cons[j]? =some c→cJ x.2 j=false→bK c x.1=some x.1
theorem vw {cons:List Con}{d:aa}(gd:GoodD d.length d):QInv cons d (d,(gr cons).1):=by
 obtain⟨h1,h2,_⟩:=pk cons 0 [] [] .nil
 refine⟨Come.refl (aZ _) gd,h1,fun j c hj hb=> ?_⟩
 have hjl:=(List.getElem?_eq_some_iff.1 hj).1
 have:=h2 j
 rw[if_pos (by omega)]at this
 rw[show cJ (d,(gr cons).1).2 j=cJ (cY 0 cons [] []).1 j from rfl,this]at hb
 cases hb
theorem zG {cons:List Con}{d:aa}{x:aa×bq}(h:QInv cons d x)(hn:iE cons.length x.2=none):AllEnds cons d (some x.1):=by
 refine⟨h.come,fun c hc=> ?_⟩
 obtain⟨j,hj⟩:=C9 hc
 have hjl:=(List.getElem?_eq_some_iff.1 hj).1
 have:=List.find?_eq_none.1 hn j (List.mem_range.2 hjl)
 exact h.shut j c hj (by simpa[cJ]using this)
theorem x8 {cons:List Con}{d:aa}{P:Con→(Int→Int)→Prop}(hs: ∀c∈cons,StepOK d.length (usesR c) (P c) (bK c)){x:aa×bq}{i:Nat}{c:Con}{now:aa}{o2:bq}(h:QInv cons d x)(hi:iE cons.length x.2=some i)(hc:cons[i]? =some c)(hnow:bK c x.1=some now)
  (ho: ∀j,cJ o2 j=true↔cJ (dlA x.2 (i:Int)) j=true∨∃v c',v<x.1.length∧x.1[v]? ≠now[v]? ∧cons[j]? =some c'∧(v:Int)∈usesR c') (hn2:(o2.map (·.1)).Nodup):
  QInv cons d (now,o2)∧weight now*(cons.length+1)+wB cons.length o2<weight x.1*(cons.length+1)+wB cons.length x.2:=by
 have O:=aZ d.length
 have hcm:=C4 hc
 have hst:=hs c hcm
 have gx:=h.come.fine
 have hcome:=h.come.step O hcm hst.takes hnow
 have gn:=hcome.fine
 have hlo:x.1.length=now.length:=by rw[gx.len,gn.len]
 have hle:=(hst.takes.less _ _ gx hnow).2
 have hopen:cJ x.2 i=true∧i<cons.length:=by
  unfold iE at hi
  rw[Er]at hi
  exact⟨hi.1,by simpa using hi.2.1⟩
 have hd: ∀j,cJ (dlA x.2 (i:Int)) j=if i=j then false else cJ x.2 j:=fun j=>by
  unfold cJ
  rw[BF _ _ _ h.nod]
  by_cases e:i=j
  ·subst e;rw[if_pos rfl,if_pos rfl];rfl
  ·rw[if_neg (by omega),if_neg e]
 have same: ∀j c',cons[j]? =some c'→cJ o2 j=false→∀u∈usesR c',domAt x.1 u=domAt now u:=fun j c' hj hb u hu=>by
  have hin:=(hs c' (C4 hj)).in' u hu
  have hne: ¬(x.1[u.toNat]? ≠now[u.toNat]?):=fun hne=>by
   have:=(ho j).2 (.inr ⟨u.toNat,c',by rw[gx.len];exact hin.2,hne,hj,by rw[show((u.toNat:Nat):Int)=u by omega];exact hu⟩)
   rw[hb]at this;cases this
  have e:=Classical.not_not.1 hne
  unfold domAt
  rw[C0,C0,e]
 refine⟨⟨hcome,hn2,fun j c' hj hb=> ?_⟩,?_⟩
 ·have hbd:cJ (dlA x.2 (i:Int)) j=false:=by
   cases hh:cJ (dlA x.2 (i:Int)) j with
   |false=>rfl
   |true=>rw[(ho j).2 (.inl hh)]at hb;cases hb
  rw[hd j]at hbd
  by_cases e:i=j
  ·subst e
   rw[hc]at hj
   obtain rfl:=C2 hj
   have hsm:=same i c hc hb
   have e:now=x.1:=ja gn gx fun v y h0=>by
    by_cases hv:v∈usesR c
    ·rw[hsm v hv]
    ·rw[hst.off x.1 now gx hnow v h0 hv]
   show bK c now=some now
   rw[e,hnow,e]
  ·rw[if_neg e]at hbd
   exact(hs c' (C4 hj)).stays x.1 now gx gn (h.shut j c' hj hbd) (same j c' hj hb)
 ·have hw:=gv gn gx hle
  by_cases e:now=x.1
  ·subst e
   have hcnt:wB cons.length o2<wB cons.length x.2:=by
    refine jv (p:=cJ x.2) (q:=cJ o2) (List.range cons.length) i (fun j hj=> ?_) (List.mem_range.2 hopen.2) hopen.1 ?_
    ·rcases (ho j).1 hj with h1|⟨v,_,_,hne,_⟩
     ·rw[hd j]at h1
      split at h1
      ·cases h1
      ·exact h1
     ·exact absurd rfl hne
    ·cases hb:cJ o2 i with
     |false=>rfl
     |true=>
      rcases (ho i).1 hb with h1|⟨v,_,_,hne,_⟩
      ·rw[hd i,if_pos rfl]at h1;cases h1
      ·exact absurd rfl hne
   omega
  ·have h1:=hw.2 e
   have h2:=Bo cons.length o2
   have h3:weight now*(cons.length+1)+(cons.length+1)≤weight x.1*(cons.length+1):=by
    have:=DJ (cons.length+1) h1
    rw[Eb]at this
    exact this
   omega
def vN (x:List (Int×Int)):Bool:=decide ((vals x).length=1)
def cA (d:aa):Option (List Int):=if d.all vN=true then some (d.map ay)else none
def A1 (R:Option (List Int)):List RV:=[.own 3 1 ((R.getD []).map cI),.val (.bool R.isSome)]
theorem vj {pre post:aa}{x:List (Int×Int)}(h:vN x=false):cA (pre++x::post)=none:=by
 unfold cA
 rw[if_neg]
 simp[h]
theorem rP (d:aa)(hd:d.length*24≤140737488355328)(hf: ∀x∈d,Fine x):Spec Tryz.prog 69 false [aJ d] (A1 (cA d)):=by
 refine Spec.body Tryz.func69 rfl rfl rfl fun w0 Z0=> ?_
 generalize hR:cA d=R
 refine .B ?_
 refine .O ?_
 refine .B ?_
 refine T.K (T.listI d (fun pre=>pre.all vN=true) (fun n pre post=>⟨[(4,.ref 0),(10,.val false (aJ d)),(11,.val true (.int .i64 (d.map cD).length)),(12,.val true (.int .i64 n))],[(0,some (.sl 3 1 true ((pre.map ay).map cI)))],1⟩) (fun _ _ h=>h) (by simp) ?_ ?_)
 ·rintro n pre x post h hn hi ih
  have hlt:=bY h hn
  have hfx:=hf x (by rw[h];simp)
  have hxl:=hfx.len
  have hs:=sR hfx
  refine .B ?_
  refine T.ct2 rfl (bX h hn) ?_
  refine .B ?_
  refine .I (r:=cD x) (aS h hn) ?_
  refine .B ?_
  refine .C (kg x) ?_
  refine .B ?_
  have no:vN x=false→R=none:=fun hx=>by rw[←hR,h];exact vj hx
  cases hx:x.isEmpty with
  |true=>
   have hxe:x=[]:=by simpa using hx
   have hR2:=no (by rw[hxe];rfl)
   subst hR2
   refine .B ?_
   refine T.ct rfl ?_
   refine .B ?_
   exact⟨_,.ownN rfl (.v rfl rfl rfl (fun _=>rfl) .nil)⟩
  |false=>
   refine .B ?_
   refine .C (gy x (by omega)) ?_
   refine .B ?_
   refine T.cd rfl (fun h1=> ?_) (fun h1=> ?_)
   ·have hR2:=no (decide_eq_false fun e=>by
     rw[hs,e]at h1
     exact h1 rfl)
    subst hR2
    refine .B ?_
    exact⟨_,.ownN rfl (.v rfl rfl rfl (fun _=>rfl) .nil)⟩
   ·have h1:vN x=true:=decide_eq_true (by
     have:fD x=1:=Classical.not_not.1 h1
     rw[hs]at this;omega)
    refine .B ?_
    refine .V ?_
    refine J.aI rfl rfl rfl rfl rfl rfl rfl rfl rfl rfl rfl rfl rfl rfl rfl rfl rfl rfl rfl (by simp;omega) ?_
    refine .B ?_
    rw[ak hlt (by omega)]
    have:=ih (by simp[hi,h1])
    rw[DF]at this
    exact T.K this
 ·intro hi
  have hR:some (d.map ay)=R:=by rw[←hR,cA,if_pos hi]
  subst hR
  refine .B ?_
  refine T.cf2 rfl bl ?_
  refine .B ?_
  exact⟨_,.o rfl rfl rfl (fun _=> .inl rfl) (by simp) (.v rfl rfl rfl (fun _=>rfl) .nil)⟩
structure ConsOk (d:aa)(cons:List Con):Prop where
 con: ∀c∈cons,ConB c
 right: ∀c∈cons,RightC d c
 few:cons.length*128≤140737488355328
 uses:((cons.map fun c=>(usesR c).length).sum+1)*8≤140737488355328
theorem ConsOk.step {d:aa}{cons:List Con}(h:ConsOk d cons)(gd:GoodD d.length d): ∀c∈cons,StepOK d.length (usesR c) (fun g=>(c.kind=4→0≤g c.b∧g c.b≤1)→holdsR c (jW d.length g)=true) (bK c):=fun c hc=>tu gd (h.con c hc) (h.right c hc)
theorem yP (d:aa)(cons:List Con)(hd:d.length*24≤140737488355328)(hx: ∀x∈d,Fine x∧(vals x).length≤4096)(hc:ConsOk d cons)
  (hone: ∀c∈cons,∀out,GoodD d.length out→leD out d→Spec Tryz.prog 105 false [aJ out,.agg (cC c)] (aW (bK c out))):
  Spec Tryz.prog 67 false [aJ d,cN cons] (aW (fS cons d)):=by
 refine Spec.body Tryz.func67 rfl rfl rfl fun w0 Z0=> ?_
 generalize hR:fS cons d=R
 refine .B ?_
 refine T.sub (Rel.own0 (s:=6) 54 1 rfl) ?_
 refine T.K (T.listI d (fun pre=>[]∉pre) (fun n pre post=>⟨[(1,.val false (cN cons)),(6,.ref 0),(15,.val false (aJ d)),(16,.val true (.int .i64 (d.map cD).length)),(17,.val true (.int .i64 n))],[(0,some (.sl 54 1 true (pre.map cD)))],1⟩) (fun _ _ h=>h) (by simp) ?_ ?_)
 ·rintro n pre x post h hn hi ih
  have hlt:=bY h hn
  have hxl:=(hx x (by rw[h];simp)).1.len
  refine .B ?_
  refine T.ct2 rfl (bX h hn) ?_
  refine .B ?_
  refine .I (r:=cD x) (aS h hn) ?_
  refine .B ?_
  refine T.cd rfl (fun h1=> ?_) (fun h1=> ?_)
  ·have hxe:x=[]:=by simp at h1;exact h1
   have:R=none:=by rw[←hR,wL (by rw[h,hxe];simp)]
   subst this
   refine .B ?_
   exact⟨_,.ownN rfl (.v rfl rfl rfl (fun _=>rfl) .nil)⟩
  ·have hxe:x≠[]:=fun e=>h1 (by rw[e];rfl)
   refine .B ?_
   refine .C (bQ x (by omega)).frz ?_
   refine .B ?_
   refine .V ?_
   refine J.aD rfl rfl rfl rfl rfl rfl rfl rfl rfl rfl rfl rfl rfl rfl rfl rfl rfl rfl rfl (by omega) ?_
   refine .B ?_
   rw[ak hlt (by omega)]
   exact T.K (ih (by simp[hi,Ne.symm hxe]))
 ·intro hne
  have gd:GoodD d.length d:=⟨⟨hd,fun x h=>(hx x h).1,fun x h=>(hx x h).2⟩,rfl,hne⟩
  have hst:=hc.step gd
  refine .B ?_
  refine T.cf2 rfl bl ?_
  refine .B ?_
  have hbg:=wH cons d.length hc.con (fun c hcc=>(pX (hc.con c hcc) (hc.right c hcc)).2.2) hc.few hc.uses
  refine J.co (qs:=[]) (cs2:=[]) false [] [1001,1002,1003] rfl rfl rfl rfl rfl rfl hbg trivial rfl rfl rfl rfl rfl rfl rfl fun ns hns=> ?_
  obtain⟨uq,ua,uu,rfl⟩: ∃uq ua uu,ns=[uq,ua,uu]:=by
   match ns,hns with
   | [a,b,c],_=>exact⟨a,b,c,rfl⟩
  refine .B ?_
  have hlen: ∀p∈(gr cons).2,p.2.length*8≤140737488355328:=fun p hp=>by
   have:=q9 cons 0 0 [] [] (by simp) p hp
   have:=hc.uses
   omega
  have hlk: ∀(v x:Int),x∈(lkA (gr cons).2 v).getD []↔∃(k:Nat) (c:Con),cons[k]? =some c∧v∈usesR c∧x=(k:Int):=fun v x=>by
   have:=(pk cons 0 [] [] .nil).2.2 v x
   rw[show(gr cons).2=(cY 0 cons [] []).2 from rfl,this]
   simp[vY]
  have hqb:=vw (cons:=cons) gd
  generalize (gr cons).1=o0 at*
  generalize (gr cons).2=us at*
  refine T.K (T.ind (fun x:aa×bq=>⟨[(1,.val false (cN cons)),(6,.ref 0),(9,.val true (.raw uq)),(1001,.eq uq 1),(1002,.eq ua 2),(1003,.eq uu 3)],[(0,some (.sl 54 1 true (x.1.map cD))),(1,some ((ms (cons.map cC) ua uu).reg false)),(2,some ((mpS x.2).reg false)),(3,some ((mpU us).reg false))],4⟩)
   (fun x=>QInv cons d x) (fun x=>weight x.1*(cons.length+1)+wB cons.length x.2) (d,o0) hqb (fun _ _ h=>h) ?_)
  rintro⟨out,o⟩ hq ih
  dsimp only
  have gx:GoodD d.length out:=hq.come.fine
  have hnx:=yo (cons.map cC) o uq ua uu (by simp;have:=hc.few;omega)
  rw[C6]at hnx
  refine .B ?_
  refine J.co (qs:=[1,2]) (cs2:=[(ms (cons.map cC) ua uu).reg false,(mpS o).reg false]) false [1001,1002] [] rfl rfl rfl rfl rfl rfl hnx ⟨rfl,rfl,rfl,rfl,trivial⟩ rfl rfl rfl rfl rfl rfl rfl fun ns hns=> ?_
  obtain rfl:ns=[]:=CT hns
  cases hn:iE cons.length o with
  |none=>
   have hfin:=fu (zG hq hn)
   rw[hR]at hfin
   subst hfin
   refine .B ?_
   refine T.ct rfl ?_
   refine .B ?_
   exact⟨_,.o rfl rfl rfl (fun _=> .inl rfl) (by simp) (.v rfl rfl rfl (fun _=>rfl) .nil)⟩
  |some i=>
   have hil:i<cons.length:=by
    unfold iE at hn
    rw[Er]at hn
    simpa using hn.2.1
   have hci:cons[i]? =some cons[i]:=C1 hil
   have hcm:=C5 hil
   have hrow:(cons.map cC)[((i:Nat):Int).toNat]? =some (cC cons[i]):=by simp[hil]
   have hsp:=hone _ hcm out gx hq.come.less
   have hstc:=hst _ hcm
   have hqs:=fun now o2=>x8 (o2:=o2) (now:=now) hst hq hn hci
   generalize cons[i]=c at*
   refine .B ?_
   refine T.cf rfl ?_
   refine .B ?_
   refine J.i rfl rfl rfl rfl rfl rfl rfl rfl rfl (r:=cC c) (by simp) hrow rfl ?_
   refine .B ?_
   refine .C hsp ?_
   cases hnow:bK c out with
   |none=>
    have hfin:=fu (d:=d) (R:=none) (show AllEnds cons d none from hq.come.none hcm hstc.takes hnow)
    rw[hR]at hfin
    subst hfin
    refine .B ?_
    refine T.ct rfl ?_
    refine .B ?_
    exact⟨_,.ownN rfl (.v rfl rfl rfl (fun _=>rfl) .nil)⟩
   |some now=>
    have hqs:=fun o2=>hqs now o2 hnow
    have gn:=(hstc.takes.less _ _ gx hnow).1
    refine .B ?_
    refine T.cf rfl ?_
    refine .B ?_
    have hlen2:out.length=now.length:=by rw[gx.len,gn.len]
    have hml:((cons.map cC).length:Nat)=cons.length:=C6 ..
    refine T.K (T.ind (fun x:Nat×bq=>⟨[(1,.val false (cN cons)),(6,.ref 0),(9,.val true (.raw uq)),(12,.ref 4),(52,.val true (.int .i64 (out.map cD).length)),(53,.val true (.int .i64 x.1)),(1001,.eq uq 1),(1002,.eq ua 2),(1003,.eq uu 3)],[(0,some (.sl 54 1 true (out.map cD))),(1,some ((ms (cons.map cC) ua uu).reg false)),(2,some ((mpS x.2).reg false)),(3,some ((mpU us).reg false)),(4,some (.sl 54 1 true (now.map cD)))],5⟩)
     (fun x=>x.1≤out.length∧(x.2.map (·.1)).Nodup∧∀j,cJ x.2 j=true↔cJ (dlA o (i:Int)) j=true∨∃(w:Nat) (c':Con),w<x.1∧out[w]? ≠now[w]? ∧cons[j]? =some c'∧(w:Int)∈usesR c') (fun x=>out.length-x.1) (0,dlA o (i:Int))
     ⟨by simp,hq.nod.sublist ((Ay (i:Int) o).map _),fun j=>⟨.inl,fun h=>h.resolve_right fun⟨w,c',h1,_⟩=>absurd h1 (DY w)⟩⟩ (fun _ _ h=>h) ?_)
    rintro⟨v,o2⟩ ⟨hv,hnd,ho⟩ ih2
    simp only at hv hnd ho
    dsimp only
    refine .B ?_
    refine T.cd rfl (fun h1=> ?_) (fun h1=> ?_)
    ·have h1:v<out.length:=by simpa using h1
     have h2:v<now.length:=by omega
     have hxl:=(gx.few.fine _ (C5 h1)).len
     have ra:(out.map cD)[((v:Nat):Int).toNat]? =some (cD out[v]):=by simp[h1]
     have rb:(now.map cD)[((v:Nat):Int).toNat]? =some (cD now[v]):=by simp[h2]
     have ea:out[v]? =some out[v]:=C1 h1
     have eb:now[v]? =some now[v]:=C1 h2
     have hw1:IntKind.i64.wrap ((v:Int)+1)=((v+1:Nat):Int):=ak (l:=out.length) h1 (by have:=gx.few.small;omega)
     have hch:=r8 (cons.map cC) o2 us (v:Int) uq ua uu hlen
     generalize hxa:out[v]=xa at*
     generalize hxb:now[v]=xb at*
     refine .B ?_
     refine .M ?_
     refine J.io rfl rfl rfl rfl rfl rfl rfl rfl rfl (by omega) (by simpa using h1) rfl ?_
     refine J.lo rfl rfl rfl rfl rfl rfl (r:=cD xa) ra rfl ?_
     refine .M ?_
     refine J.io rfl rfl rfl rfl rfl rfl rfl rfl rfl (by omega) (by simpa using h2) rfl ?_
     refine J.lo rfl rfl rfl rfl rfl rfl (r:=cD xb) rb rfl ?_
     refine .M ?_
     refine .C (d8 xa xb (by omega)) ?_
     by_cases hab:xa=xb
     ·rw[decide_eq_true hab]
      refine .B ?_
      refine T.cf rfl ?_
      refine .B ?_
      rw[hw1]
      have:=ih2 (v+1,o2) ⟨by omega,hnd,fun k=>(ho k).trans (or_congr_right ⟨fun⟨w,c',h3,h4⟩=>⟨w,c',by omega,h4⟩,fun⟨w,c',h3,h4,h5⟩=>⟨w,c',by
       have:w≠v:=fun e=>h4 (by rw[e,ea,eb,hab])
       omega,h4,h5⟩⟩)⟩ (by show _-_<_-_;omega)
      exact T.K this
     ·rw[decide_eq_false hab]
      refine .B ?_
      refine T.ct rfl ?_
      refine .B ?_
      refine J.co (qs:=[1,2,3]) (cs2:=[(ms (cons.map cC) ua uu).reg false,(mpS o2).reg false,(mpU us).reg false]) false [1001,1002,1003] [] rfl rfl rfl rfl rfl rfl hch ⟨rfl,rfl,rfl,rfl,rfl,rfl,trivial⟩ rfl rfl rfl rfl rfl rfl rfl fun ns hns=> ?_
      obtain rfl:ns=[]:=CT hns
      refine .B ?_
      rw[hw1]
      have hb3: ∀k,cJ (eP ((lkA us (v:Int)).getD []) o2) k=true↔cJ o2 k=true∨∃c',cons[k]? =some c'∧(v:Int)∈usesR c':=fun k=>by
       unfold cJ
       rw[oz]
       by_cases hm:(k:Int)∈(lkA us (v:Int)).getD []
       ·rw[if_pos hm]
        obtain⟨k',c',h3,h4,h5⟩:=(hlk _ _).1 hm
        obtain rfl:k=k':=by omega
        exact⟨fun _=> .inr ⟨c',h3,h4⟩,fun _=>rfl⟩
       ·rw[if_neg hm]
        exact⟨.inl,fun h=>h.resolve_right fun⟨c',h3,h4⟩=>hm ((hlk _ _).2 ⟨k,c',h3,h4,rfl⟩)⟩
      have:=ih2 (v+1,eP ((lkA us (v:Int)).getD []) o2) ⟨by omega,mN _ _ hnd,fun k=>by
       rw[hb3 k,ho k]
       constructor
       ·rintro((h3|⟨w,c',h3,h4,h5⟩)|⟨c',h3,h4⟩)
        ·exact .inl h3
        ·exact .inr ⟨w,c',by omega,h4,h5⟩
        ·exact .inr ⟨v,c',by omega,by rw[ea,eb];exact fun e=>hab (C2 e),h3,h4⟩
       ·rintro(h3|⟨w,c',h3,h4,h5⟩)
        ·exact .inl (.inl h3)
        ·by_cases e:w=v
         ·subst e;exact .inr ⟨c',h5⟩
         ·exact .inl (.inr ⟨w,c',by omega,h4,h5⟩)⟩ (by show _-_<_-_;omega)
      exact T.K this
    ·have h1:v=out.length:=by simp at h1;omega
     subst h1
     refine .B ?_
     have:=ih (now,o2) (hqs o2 ho hnd).1 (hqs o2 ho hnd).2
     exact T.K this
def nl (k:Int):FuncId:=if k=1 then 133 else if k=2 then 134 else if k=3 then 135 else if k=4 then 136 else if k=5 then 137 else if k=6 then 138 else 139
theorem xu {d:aa}{c:Con}{R:Option aa}(h:Spec Tryz.prog (nl c.kind) false [aJ d,.agg (cC c)] (aW R)):Spec Tryz.prog 105 false [aJ d,.agg (cC c)] (aW R):=by
 refine Spec.body Tryz.func105 rfl rfl rfl fun w0 Z0=> ?_
 unfold nl at h
 refine .B ?_
 refine T.cd rfl (fun h1=> ?_) (fun h1=> ?_)
 ·have h1:c.kind=1:=h1
  rw[if_pos h1]at h
  refine .B ?_
  refine .C h ?_
  refine .B ?_
  exact⟨_,.o rfl rfl rfl (fun _=> .inl rfl) (by simp) (.v rfl rfl rfl (fun _=>rfl) .nil)⟩
 ·have h1: ¬c.kind=1:=h1
  rw[if_neg h1]at h
  refine .B ?_
  refine T.cd rfl (fun h1=> ?_) (fun h1=> ?_)
  ·have h1:c.kind=2:=h1
   rw[if_pos h1]at h
   refine .B ?_
   refine .C h ?_
   refine .B ?_
   exact⟨_,.o rfl rfl rfl (fun _=> .inl rfl) (by simp) (.v rfl rfl rfl (fun _=>rfl) .nil)⟩
  ·have h1: ¬c.kind=2:=h1
   rw[if_neg h1]at h
   refine .B ?_
   refine T.cd rfl (fun h1=> ?_) (fun h1=> ?_)
   ·have h1:c.kind=3:=h1
    rw[if_pos h1]at h
    refine .B ?_
    refine .C h ?_
    refine .B ?_
    exact⟨_,.o rfl rfl rfl (fun _=> .inl rfl) (by simp) (.v rfl rfl rfl (fun _=>rfl) .nil)⟩
   ·have h1: ¬c.kind=3:=h1
    rw[if_neg h1]at h
    refine .B ?_
    refine T.cd rfl (fun h1=> ?_) (fun h1=> ?_)
    ·have h1:c.kind=4:=h1
     rw[if_pos h1]at h
     refine .B ?_
     refine .C h ?_
     refine .B ?_
     exact⟨_,.o rfl rfl rfl (fun _=> .inl rfl) (by simp) (.v rfl rfl rfl (fun _=>rfl) .nil)⟩
    ·have h1: ¬c.kind=4:=h1
     rw[if_neg h1]at h
     refine .B ?_
     refine T.cd rfl (fun h1=> ?_) (fun h1=> ?_)
     ·have h1:c.kind=5:=h1
      rw[if_pos h1]at h
      refine .B ?_
      refine .C h ?_
      refine .B ?_
      exact⟨_,.o rfl rfl rfl (fun _=> .inl rfl) (by simp) (.v rfl rfl rfl (fun _=>rfl) .nil)⟩
     ·have h1: ¬c.kind=5:=h1
      rw[if_neg h1]at h
      refine .B ?_
      refine T.cd rfl (fun h1=> ?_) (fun h1=> ?_)
      ·have h1:c.kind=6:=h1
       rw[if_pos h1]at h
       refine .B ?_
       refine .C h ?_
       refine .B ?_
       exact⟨_,.o rfl rfl rfl (fun _=> .inl rfl) (by simp) (.v rfl rfl rfl (fun _=>rfl) .nil)⟩
      ·have h1: ¬c.kind=6:=h1
       rw[if_neg h1]at h
       refine .B ?_
       refine .C h ?_
       refine .B ?_
       exact⟨_,.o rfl rfl rfl (fun _=> .inl rfl) (by simp) (.v rfl rfl rfl (fun _=>rfl) .nil)⟩
theorem fN {n:Nat}{d:aa}(gd:GoodD n d): ∀x∈d,x.length*64+1048576≤140737488355328:=fun x hx=>by
 have:=gd.few.few x hx
 have:=bG (gd.few.fine x hx).ok
 omega
theorem rL {d:aa}{c:Con}(gd:GoodD d.length d)(h:SumOk d c):Spec Tryz.prog 139 false [aJ d,.agg (cC c)] (aW (gG c d)):=by
 obtain⟨M,hM⟩:=gF h
 exact tM d c h.fine (fN gd) _ M hM
theorem Bl {d:aa}{c:Con}(hk:c.kind=1)(hr:rightR d c=true):c=Bm c.vars∧c.vars.Nodup∧c.vars≠[]:=by
 obtain⟨kind,vars,coefs,op,rhs,rows,b⟩:=c
 simp only at hk
 subst hk
 simp only[rightR,noneR,plainR,bareR,manyR,CR,decide_eq_true_eq,if_neg (by decide: ¬(1:Int)=0),if_pos]at hr
 obtain⟨⟨h1,⟨⟨h2,h3⟩,h4⟩,h5⟩,h6,h7⟩:=hr
 obtain rfl:=CT h1
 obtain rfl:=CT h5
 subst h2 h3 h4
 exact⟨rfl,h7,Em h6⟩
theorem CG {d:aa}{c:Con}(gd:GoodD d.length d)(hc:ConB c)(h:conR d c=0)(hk:c.kind=1):Spec Tryz.prog 133 false [aJ d,.agg (cC c)] (aW (gW d c.vars)):=by
 obtain⟨_,hv,hr,_⟩:=cS hc h
 obtain⟨e,h1,h2⟩:=Bl hk hr
 have a:=uZ d c.vars gd.few ⟨h1,hv.2⟩ h2
 rw[←e]at a
 exact a
theorem BK {d:aa}{c:Con}(gd:GoodD d.length d)(h:ReifOk d c):Spec Tryz.prog 136 false [aJ d,.agg (cC c)] (aW (oc c d)):=by
 have hsm:=fN gd
 have e:oc c d=s6 d c (gG (bM c) d) (gG (bN (bM c)) d):=if_pos h.truth
 rw[e]
 exact vW d c h.sum.fine.in_ h.con h.b (fun x hx=>by have:=hsm x hx;omega) _ _ (fun _ _ _ _=>rL gd h.sum) (fun _ _ _ _ _=>rL gd h.sumN)
theorem B5 {c:Con}(h:c.kind≠4):usesR c=aV c.vars:=by unfold usesR;rw[if_neg h]
theorem pD {d:aa}{c:Con}(gd:GoodD d.length d)(hc:ConB c)(h:conR d c=0)(hk:c.kind=5):Spec Tryz.prog 137 false [aJ d,.agg (cC c)] (aW (bK c d)):=by
 have hcl:=qY hc h hk
 have hsm:=fN gd
 have e:bK c d=jA d c:=by
  unfold bK
  rw[if_neg (by omega),if_neg (by omega),if_neg (by omega),if_neg (by omega),B5 (by omega)]
  exact uK hcl hk gd.few.fine
 rw[e]
 exact rM d c (Bp hcl gd.few.small fun x hx=>by have:=hsm x hx;omega)
theorem Cs {d:aa}{c:Con}(gd:GoodD d.length d)(hv:cO d c):Spec Tryz.prog 138 false [aJ d,.agg (cC c)] (aW (v6 c d)):=by
 obtain⟨R,N,h1,_⟩:=p7 (c:=c) (d:=d) hv gd.few.fine
 have h2:=h1
 rw[if_neg gd.some']at h2
 obtain rfl:=tW h2
 exact vz d c hv ⟨gd.few.small,fun x hx=>by have:=fN gd x hx;omega⟩ _ N h1
theorem yV {d:aa}{vs:List Int}{i:Int}(h0:0≤i)(h1:i.toNat<(vs.drop 2).length):elemIn d vs i= !decide (elemM d vs i=[]):=by
 have h2:i.toNat+2<vs.length:=by simp at h1;omega
 unfold elemIn
 rw[decide_eq_true h0,decide_eq_true h2];rfl
theorem wv (d:aa)(vs:List Int)(i:Int)(h2:2≤vs.length)(hv: ∀v∈vs,0≤v∧v.toNat<d.length)(hvl:vs.length*8≤140737488355328)(hx: ∀x∈d,x.length*32≤140737488355328):
  Spec Tryz.prog 188 false [.int .i64 i,.ptr [av (vs.drop 2)],.ptr [aJ d],.ptr [.int .i64 (vs.getD 1 0)]] [.val (.bool (!elemIn d vs i))]:=by
 refine Spec.body Tryz.func188 rfl rfl rfl fun w0 Z0=> ?_
 have hr:=hv (vs.getD 1 0) (cX (by omega))
 have hrow:(d.map cD)[(vs.getD 1 0).toNat]? =some (cD (domAt d (vs.getD 1 0))):=by rw[C8,ao hr.2];rfl
 have hM:elemM d vs i=bB (domAt d (vs.getD (i.toNat+2) 0)) (domAt d (vs.getD 1 0)):=rfl
 have hIn:= @yV d vs i
 have hno: ¬(0≤i∧i.toNat<(vs.drop 2).length)→elemIn d vs i=false:=fun h=>by
  unfold elemIn
  by_cases h0:0≤i
  ·have: ¬i.toNat+2<vs.length:=fun e=>h ⟨h0,by simp;omega⟩
   rw[decide_eq_false this];simp
  ·rw[decide_eq_false h0];rfl
 have hat: ∀h:i.toNat<(vs.drop 2).length,(vs.drop 2)[i.toNat]=vs.getD (i.toNat+2) 0:=fun h=>by rw[List.getElem_drop,aN (by simp at h;omega)];congr 1;omega
 have hin: ∀h:i.toNat<(vs.drop 2).length,vs.getD (i.toNat+2) 0∈vs:=fun h=>cX (by simp at h;omega)
 have hls:(vs.drop 2).length≤vs.length:=by simp
 generalize vs.drop 2=ls at*
 generalize vs.getD 1 0=r at*
 generalize elemIn d vs i=b at*
 generalize elemM d vs i=M at*
 refine .B ?_
 refine J.g rfl rfl rfl (fun h3=> ?_) (fun h3=> ?_)
 ·refine .B ?_
  rw[hno (by omega)]
  exact r1
 ·refine .B ?_
  refine J.g rfl rfl rfl (fun h4=> ?_) (fun h4=> ?_)
  ·refine .B ?_
   rw[hno (by simp at h4;omega)]
   exact r1
  ·have h4:i.toNat<ls.length:=by simp at h4;omega
   have hvi:=hv _ (hin h4)
   have hri:(d.map cD)[(vs.getD (i.toNat+2) 0).toNat]? =some (cD (domAt d (vs.getD (i.toNat+2) 0))):=by rw[C8,ao hvi.2];rfl
   have hli:(ls.map cI)[i.toNat]? =some (cI (vs.getD (i.toNat+2) 0)):=by rw[C8,C1 h4,hat h4];rfl
   have hx1:=hx _ (ah hvi.2)
   have hx2:=hx _ (ah hr.2)
   rw[hIn (by omega) h4]
   refine .B ?_
   refine J.i rfl rfl rfl rfl rfl rfl rfl rfl rfl (r:=cI (vs.getD (i.toNat+2) 0)) (by omega) hli rfl ?_
   refine .B ?_
   refine J.i rfl rfl rfl rfl rfl rfl rfl rfl rfl (r:=cD (domAt d (vs.getD (i.toNat+2) 0))) hvi.1 hri rfl ?_
   refine .B ?_
   refine J.i rfl rfl rfl rfl rfl rfl rfl rfl rfl (r:=cD (domAt d r)) hr.1 hrow rfl ?_
   refine .B ?_
   refine J.cc rfl rfl rfl rfl rfl (l4 _ _ (by omega)) rfl rfl ?_
   refine .B ?_
   have e:decide (((((bB (domAt d (vs.getD (i.toNat+2) 0)) (domAt d r)).map cR).length:Nat):Int)=0)= !(!decide (M=[])):=by rw[hM];simp
   exact⟨_,.v rfl rfl (by rw[←e]) (fun _=>rfl) .nil⟩
theorem uC {d:aa}{c:Con}(h: []∈d):qS d c=none:=if_pos h
set_option maxHeartbeats 1000000 in
theorem uA {n:Nat}(d:aa)(c:Con)(gd: []∉d→GoodD n d)(fd:FewD d)(hc:ConB c)(hn:c.vars.Nodup)(h3:3≤c.vars.length)(hv: ∀v∈c.vars,0≤v∧v.toNat<d.length):
  Spec Tryz.prog 135 false [aJ d,.agg (cC c)] (aW (qS d c)):=by
 refine Spec.body Tryz.func135 rfl rfl rfl fun w0 Z0=> ?_
 generalize hR:qS d c=R
 have hdl:=fd.small
 have hx: ∀x∈d,x.length≤4096:=fun x hm=>by have:=bG (fd.fine x hm).ok;have:=fd.few x hm;omega
 obtain⟨h1,h2,h5,h4⟩:=hc
 refine .B ?_
 refine T.sub (Rel.unbx (s:=2) (fun _ h=>h) rfl rfl) ?_
 refine T.sub (Rel.fp (s:=2) rfl) ?_
 refine T.sub (Rel.unbx (s:=3) (fun _ h=>h) rfl rfl) ?_
 refine T.sub (Rel.own0 (s:=6) 54 1 rfl) ?_
 refine T.K (T.listI d (fun pre=>[]∉pre) (fun n pre post=>⟨[(2,.val false (.ptr [aJ d])),(3,.fptr false (cC c)),(6,.ref 0),(16,.val false (aJ d)),(17,.val true (.int .i64 (d.map cD).length)),(18,.val true (.int .i64 n))],[(0,some (.sl 54 1 true (pre.map cD)))],1⟩) (fun _ _ h=>h) (by simp) ?_ ?_)
 ·rintro n pre x post h hn hi ih
  have hlt:=bY h hn
  have hxl:=hx x (by rw[h];simp)
  refine .B ?_
  refine T.ct2 rfl (bX h hn) ?_
  refine .B ?_
  refine .I (r:=cD x) (aS h hn) ?_
  refine .B ?_
  refine T.cd rfl (fun h5=> ?_) (fun h5=> ?_)
  ·have hxe:x=[]:=by simp at h5;exact h5
   have:R=none:=by rw[←hR,uC (by rw[h,hxe];simp)]
   subst this
   refine .B ?_
   exact⟨_,.ownN rfl (.v rfl rfl rfl (fun _=>rfl) .nil)⟩
  ·have hxe:x≠[]:=fun e=>h5 (by rw[e];rfl)
   refine .B ?_
   refine .C (bQ x (by omega)).frz ?_
   refine .B ?_
   refine .V ?_
   refine J.aD rfl rfl rfl rfl rfl rfl rfl rfl rfl rfl rfl rfl rfl rfl rfl rfl rfl rfl rfl (by omega) ?_
   refine .B ?_
   rw[ak hlt (by omega)]
   exact T.K (ih (by simp[hi,Ne.symm hxe]))
 ·intro hne
  have gd:=gd hne
  unfold qS at hR
  rw[if_neg hne]at hR
  refine .B ?_
  refine T.cf2 rfl bl ?_
  refine .B ?_
  have hr0:(c.vars.map cI)[(0:Int).toNat]? =some (cI (c.vars.getD 0 0)):=by rw[C8,C1 (show(0:Int).toNat<c.vars.length by simp;omega),aN (by omega)];rfl
  have hr1:(c.vars.map cI)[(1:Int).toNat]? =some (cI (c.vars.getD 1 0)):=by rw[C8,C1 (show(1:Int).toNat<c.vars.length by simp;omega),aN (by omega)];rfl
  refine T.rdw 16 rfl (by kernel_rfl) rfl ?_
  refine .B ?_
  refine .I (r:=cI (c.vars.getD 0 0)) hr0 ?_
  refine .B ?_
  refine .I (r:=cI (c.vars.getD 1 0)) hr1 ?_
  refine .B ?_
  refine J.s3 (enc:=cI) (l:=c.vars) 2 rfl rfl rfl rfl rfl rfl rfl rfl rfl (fun _=>rfl) rfl (by omega) ?_
  refine .B ?_
  refine .L ?_
  refine .B ?_
  refine .L ?_
  refine .B ?_
  refine J.wd rfl rfl rfl rfl rfl rfl rfl rfl rfl rfl ?_
  refine .B ?_
  refine J.wd rfl rfl rfl rfl rfl rfl rfl rfl rfl rfl ?_
  refine .B ?_
  refine⟨by kernel_rfl,?_⟩
  refine .B ?_
  refine J.sub (Rel.unbx (s:=10) (fun _ h=>h) rfl rfl) ?_
  refine J.sub (Rel.fp (s:=10) rfl) ?_
  refine J.sub (Rel.unbx (s:=11) (fun _ h=>h) rfl rfl) ?_
  refine J.sub (Rel.fp (s:=11) rfl) ?_
  have hvi:=hv _ (cX (show 0<c.vars.length by omega))
  have hvr:=hv _ (cX (show 1<c.vars.length by omega))
  have hdi:=ah hvi.2
  have hri:(d.map cD)[(c.vars.getD 0 0).toNat]? =some (cD (domAt d (c.vars.getD 0 0))):=by rw[C8,ao hvi.2];rfl
  refine J.i rfl rfl rfl rfl rfl rfl rfl rfl rfl (r:=cD (domAt d (c.vars.getD 0 0))) hvi.1 hri rfl ?_
  refine .B ?_
  have hvs:=ip (domAt d (c.vars.getD 0 0)) (fd.fine _ hdi).domB.1 (by have:=hx _ hdi;omega)
  rw[CV (show _≤4097 by have:=fd.few _ hdi;omega)]at hvs
  refine .C hvs ?_
  refine .B ?_
  have hdel:=rW (p:=fun i=> !elemIn d c.vars i) (f:=188) [.ptr [av (c.vars.drop 2)],.ptr [aJ d],.ptr [.int .i64 (c.vars.getD 1 0)]] (vals (domAt d (c.vars.getD 0 0))) (fun i _=>wv d c.vars i (by omega) hv (by omega) fun x hm=>by have:=hx x hm;omega) (by have:=fd.few _ hdi;omega)
  rw[show(vals (domAt d (c.vars.getD 0 0))).filter (fun x=> !!elemIn d c.vars x)=elemPl d c.vars by simp[elemPl]]at hdel
  refine J.cp (cs2:=[]) (qs:=[]) [] rfl rfl rfl rfl rfl rfl rfl rfl hdel trivial rfl rfl rfl rfl rfl rfl ?_
  refine .B ?_
  have hpin: ∀i∈elemPl d c.vars,0≤i∧i.toNat+2<c.vars.length:=fun i hi=>by
   obtain⟨_,a1,a2,_⟩:=(im gd c.vars i).1 hi
   exact⟨a1,a2⟩
  have hpll:(elemPl d c.vars).length≤4096:=D3 (DN _ _) (fd.few _ hdi)
  have hmay:=fun l=>uD gd c.vars l
  have hrr:(d.map cD)[(c.vars.getD 1 0).toNat]? =some (cD (domAt d (c.vars.getD 1 0))):=by rw[C8,ao hvr.2];rfl
  unfold rV at hR
  generalize elemPl d c.vars=l at*
  refine T.cd rfl (fun h5=> ?_) (fun h5=> ?_)
  ·have h5:l=[]:=by simp at h5;exact h5
   rw[if_pos h5]at hR
   subst hR
   refine .B ?_
   exact⟨_,.ownN rfl (.v rfl rfl rfl (fun _=>rfl) .nil)⟩
  ·have h5: ¬l=[]:=fun e=>h5 (by rw[e];rfl)
   rw[if_neg h5]at hR
   refine .B ?_
   refine T.sub (Rel.own0 (s:=13) 53 2 rfl) ?_
   refine T.K (T.list l (fun n pre post=>⟨[(2,.val false (.ptr [aJ d])),(6,.ref 0),(9,.val true (.int .i64 (c.vars.getD 0 0))),(10,.val true (.ptr [.int .i64 (c.vars.getD 1 0)])),(11,.val false (.ptr [av (c.vars.drop 2)])),(12,.ref 1),(13,.ref 2),(52,.ref 1),(53,.val true (.int .i64 (l.map cI).length)),(54,.val true (.int .i64 n))],[(0,some (.sl 54 1 true (d.map cD))),(1,some (.sl 3 1 true (l.map cI))),(2,some (.sl 53 2 true ((elemMay d c.vars pre).map cR)))],3⟩) (fun _ _ h=>h) ?_ ?_)
   ·rintro n pre v post h hn ih
    have hlt:=bY h hn
    have hvv:=hpin v (by rw[h];simp)
    refine .B ?_
    refine T.ct2 rfl (bX h hn) ?_
    refine .B ?_
    refine J.io rfl rfl rfl rfl rfl rfl rfl rfl rfl (by omega) (by simp;omega) rfl ?_
    refine .B ?_
    refine J.lo rfl rfl rfl rfl rfl rfl (r:=cI v) (aS h hn) rfl ?_
    refine .B ?_
    have hvin:=hv _ (cX hvv.2)
    have hls:((c.vars.drop 2).map cI)[v.toNat]? =some (cI (c.vars.getD (v.toNat+2) 0)):=by
     rw[C8,Eh,EF 2,C1 hvv.2,aN hvv.2];rfl
    have hrv:(d.map cD)[(c.vars.getD (v.toNat+2) 0).toNat]? =some (cD (domAt d (c.vars.getD (v.toNat+2) 0))):=by rw[C8,ao hvin.2];rfl
    have hx1:=hx _ (ah hvin.2)
    have hx2:=hx _ (ah hvr.2)
    have hmy:=hmay pre
    have hme:=d7 gd c.vars v
    have hmr:=nB hme.1 fun x hx=>(gd.few.at _).2.2 x ((hme.2 x).1 hx).1
    have hml:(elemM d c.vars v).length≤4096:=by
     have a1:=bG hme.1
     have a2:=bV (aF hme.1) fun x hx=>((hme.2 x).1 hx).1
     have:=(gd.few.at (c.vars.getD (v.toNat+2) 0)).1
     omega
    have hnx:elemMay d c.vars (pre++[v])=oO (elemMay d c.vars pre) (elemM d c.vars v):=by simp[elemMay]
    have hmeet:=l4 (domAt d (c.vars.getD (v.toNat+2) 0)) (domAt d (c.vars.getD 1 0)) (by omega)
    have hjoin:=wx (elemMay d c.vars pre) (elemM d c.vars v) (by omega) fun r hr=>by
     rcases List.mem_append.1 hr with hr|hr
     ·exact hmy.2 r hr
     ·exact hmr r hr
    rw[show bB (domAt d (c.vars.getD (v.toNat+2) 0)) (domAt d (c.vars.getD 1 0))=elemM d c.vars v from rfl]at hmeet
    rw[hnx]at ih
    have hw1:=ak hlt (by omega)
    refine J.i rfl rfl rfl rfl rfl rfl rfl rfl rfl (r:=cI (c.vars.getD (v.toNat+2) 0)) (by omega) hls rfl ?_
    refine .B ?_
    refine J.i rfl rfl rfl rfl rfl rfl rfl rfl rfl (r:=cD (domAt d (c.vars.getD (v.toNat+2) 0))) hvin.1 hrv rfl ?_
    refine .B ?_
    refine J.i rfl rfl rfl rfl rfl rfl rfl rfl rfl (r:=cD (domAt d (c.vars.getD 1 0))) hvr.1 hrr rfl ?_
    refine .B ?_
    refine .C hmeet ?_
    refine .B ?_
    refine .C hjoin ?_
    refine .B ?_
    rw[hw1]
    exact T.K ih
   ·have hof:=(kn l (by omega)).frz
    have hml:=(hmay l).1
    generalize elemMay d c.vars l=may at*
    generalize domOfP l=of at*
    refine .B ?_
    refine T.cf2 rfl bl ?_
    refine .B ?_
    refine .C hof ?_
    refine .B ?_
    refine J.io rfl rfl rfl rfl rfl rfl rfl rfl rfl hvi.1 (by simp;exact hvi.2) rfl ?_
    refine J.w1 rfl rfl rfl rfl rfl rfl rfl rfl rfl rfl rfl (enc:=cD) (z:=of.1) (fun _=>rfl) (by simp;exact hvi.2) ?_
    refine J.sub (Rel.frz (s:=13) (fun _ h=>h) rfl rfl) ?_
    refine .B ?_
    refine J.io rfl rfl rfl rfl rfl rfl rfl rfl rfl hvr.1 (by simp;exact hvr.2) rfl ?_
    refine J.w1 rfl rfl rfl rfl rfl rfl rfl rfl rfl rfl rfl (enc:=cD) (z:=may) (fun _=>rfl) (by simp;exact hvr.2) ?_
    refine .B ?_
    refine T.cd rfl (fun h6=> ?_) (fun h6=> ?_)
    ·have h6:l.length=1:=by simp at h6;omega
     have hl0:(l.map cI)[(0:Int).toNat]? =some (cI (l.getD 0 0)):=by rw[C8,C1 (show(0:Int).toNat<l.length by simp;omega),aN (by omega)];rfl
     have hm0:l.getD 0 0∈l:=by rw[aN (by omega)];exact C5 _
     obtain⟨b1,b2⟩:=hpin _ hm0
     have hvin:=hv _ (cX b2)
     rw[if_pos h6]at hR
     generalize l.getD 0 0=i0 at*
     have hls:((c.vars.drop 2).map cI)[i0.toNat]? =some (cI (c.vars.getD (i0.toNat+2) 0)):=by
      rw[C8,Eh,EF 2,C1 b2,aN b2];rfl
     subst hR
     refine .B ?_
     refine T.rdm 10 rfl (by kernel_rfl) rfl ?_
     refine .B ?_
     refine J.io rfl rfl rfl rfl rfl rfl rfl rfl rfl (by omega) (by simp;omega) rfl ?_
     refine .B ?_
     refine J.lo rfl rfl rfl rfl rfl rfl (r:=cI i0) hl0 rfl ?_
     refine .B ?_
     refine J.i rfl rfl rfl rfl rfl rfl rfl rfl rfl (r:=cI (c.vars.getD (i0.toNat+2) 0)) b1 hls rfl ?_
     refine .B ?_
     refine .C (bQ may (by omega)).frz ?_
     refine .B ?_
     refine J.io rfl rfl rfl rfl rfl rfl rfl rfl rfl hvin.1 (by simp;exact hvin.2) rfl ?_
     refine .B ?_
     refine J.w1 rfl rfl rfl rfl rfl rfl rfl rfl rfl rfl rfl (enc:=cD) (z:=may) (fun _=>rfl) (by simp;exact hvin.2) ?_
     refine .B ?_
     exact⟨_,.o rfl rfl rfl (fun _=> .inl rfl) (by simp) (.v rfl rfl rfl (fun _=>rfl) .nil)⟩
    ·have h6: ¬l.length=1:=by simp at h6;omega
     rw[if_neg h6]at hR
     subst hR
     refine .B ?_
     exact⟨_,.o rfl rfl rfl (fun _=> .inl rfl) (by simp) (.v rfl rfl rfl (fun _=>rfl) .nil)⟩
theorem sL {α:Type}{l:List α}{i:Nat}(p:α→Bool)(h:i<l.length):(l.take (i+1)).filter p=(l.take i).filter p++(if p l[i]=true then [l[i]]else []):=by
 rw[C7 h,EV]
 congr 1
 by_cases hp:p l[i]=true
 ·rw[if_pos hp,EI hp];rfl
 ·rw[if_neg hp,Ea hp];rfl
theorem u5 (d:aa)(c:Con)(hdl:d.length*24≤140737488355328)(hx: ∀x∈d,x.length*16≤140737488355328)(hc:ConB c)(hv: ∀v∈c.vars,0≤v∧v.toNat<d.length)(hr: ∀r∈c.rows,r.length=c.vars.length):
  Spec Tryz.prog 186 false [aJ d,.agg (cC c)] [.own 24 1 ((rowsP d c).map cL)]:=by
 refine Spec.body Tryz.func186 rfl rfl rfl fun w0 Z0=> ?_
 obtain⟨h1,h2,h3,h4⟩:=hc
 refine .B ?_
 refine T.scope (fun _ _ h=>h) ?_
 refine .B ?_
 refine T.sub (Rel.own0 (s:=5) 24 1 rfl) ?_
 refine T.K (T.ind (fun i:Nat=>⟨[(0,.val false (aJ d)),(3,.optr 0 0 0 0),(5,.ref 1),(11,.val false (bR c.rows)),(12,.val true (.int .i64 (c.rows.map cL).length)),(13,.val true (.int .i64 i))],[(0,some (.box false (cC c))),(1,some (.sl 24 1 true (((c.rows.take i).filter (kI d c.vars)).map cL)))],2⟩) (fun i=>i≤c.rows.length) (fun i=>c.rows.length-i) 0 (by simp) (fun _ _ h=>h) ?_)
 rintro i hi ih
 refine .B ?_
 refine T.cd rfl (fun h5=> ?_) (fun h5=> ?_)
 ·have h5:i<c.rows.length:=by simpa using h5
  have hrl:=hr _ (C5 h5)
  have hr8:=h4 _ (C5 h5)
  have hfl:((c.rows.take i).filter (kI d c.vars)).length≤i:=D3 (DN _ _) (by simp;omega)
  have ih1:=ih (i+1) (by omega) (by omega)
  rw[sL _ h5]at ih1
  have hrow:(c.rows.map cL)[((i:Nat):Int).toNat]? =some (cL c.rows[i]):=by simp[h5]
  generalize (c.rows.take i).filter (kI d c.vars)=out at*
  generalize c.rows[i]=r at*
  have hw1:IntKind.i64.wrap ((i:Int)+1)=((i+1:Nat):Int):=ak (l:=c.rows.length) h5 (by omega)
  refine .B ?_
  refine .I (r:=cL r) hrow ?_
  refine .B ?_
  refine T.K (T.ind (fun k:Nat=>⟨[(0,.val false (aJ d)),(3,.optr 0 0 0 0),(5,.ref 1),(7,.val false (av r)),(11,.val false (bR c.rows)),(12,.val true (.int .i64 (c.rows.map cL).length)),(13,.val true (.int .i64 i)),(18,.val false (av c.vars)),(19,.val true (.int .i64 (c.vars.map cI).length)),(20,.val true (.int .i64 k))],[(0,some (.box false (cC c))),(1,some (.sl 24 1 true (out.map cL)))],2⟩)
   (fun k=>k≤c.vars.length∧∀j,j<k→hasV (domAt d (c.vars.getD j 0)) (r.getD j 0)=true) (fun k=>c.vars.length-k) 0 ⟨by simp,fun j hj=>absurd hj (DY j)⟩ (fun _ _ h=>h) ?_)
  rintro k ⟨hk,hb⟩ ih2
  refine .B ?_
  refine T.cd rfl (fun h6=> ?_) (fun h6=> ?_)
  ·have h6:k<c.vars.length:=by simpa using h6
   have h7:k<r.length:=by omega
   have hvk:=hv _ (C5 h6)
   have hdx:=hx _ (ah hvk.2)
   have hrd:(d.map cD)[c.vars[k].toNat]? =some (cD (domAt d c.vars[k])):=by simp[ao hvk.2]
   have hg1:c.vars.getD k 0=c.vars[k]:=aN h6
   have hg2:r.getD k 0=r[k]:=aN h7
   have hkv:(c.vars.map cI)[((k:Nat):Int).toNat]? =some (cI c.vars[k]):=aO h6
   have hkr:(r.map cI)[((k:Nat):Int).toNat]? =some (cI r[k]):=aO h7
   have hno:hasV (domAt d c.vars[k]) r[k]=false→kI d c.vars r=false:=fun hf=>by
    cases hh:kI d c.vars r with
    |false=>rfl
    |true=>
     have:=(rh (p:=fun v x=>hasV (domAt d v) x) hrl).1 hh k c.vars[k] (C1 h6)
     rw[hg2]at this
     rw[hf]at this;cases this
   have hyes:hasV (domAt d c.vars[k]) r[k]=true→∀j,j<k+1→hasV (domAt d (c.vars.getD j 0)) (r.getD j 0)=true:=fun hf j hj=>by
    by_cases e:j=k
    ·rw[e,hg1,hg2];exact hf
    ·exact hb j (by omega)
   generalize c.vars[k]=v at*
   generalize r[k]=x at*
   refine .B ?_
   refine .I (r:=cI v) hkv ?_
   refine .B ?_
   refine J.i rfl rfl rfl rfl rfl rfl rfl rfl rfl (r:=cD (domAt d v)) hvk.1 hrd rfl ?_
   refine .B ?_
   refine .I (r:=cI x) hkr ?_
   refine .B ?_
   refine .C (jy (domAt d v) x hdx) ?_
   cases hh:hasV (domAt d v) x with
   |false=>
    refine .B ?_
    refine T.ct rfl ?_
    refine .B ?_
    rw[hno hh]at ih1
    simp only[DR,if_false,Dv]at ih1
    rw[hw1]
    exact T.K ih1
   |true=>
    refine .B ?_
    refine T.cf rfl ?_
    refine .B ?_
    rw[ak (l:=c.vars.length) h6 (by omega)]
    exact T.K (ih2 (k+1) ⟨by omega,hyes hh⟩ (by omega))
  ·have h6:k=c.vars.length:=by simp at h6;omega
   subst h6
   have hin:kI d c.vars r=true:=(rh (p:=fun v x=>hasV (domAt d v) x) hrl).2 fun j v hj=>by
    have hjl:=(List.getElem?_eq_some_iff.1 hj).1
    have:=hb j hjl
    rw[C0,hj]at this
    exact this
   rw[hin]at ih1
   simp only[if_true]at ih1
   refine .B ?_
   refine .C (dR r hr8).frz ?_
   refine .B ?_
   refine .V ?_
   refine .B ?_
   refine J.a1 (enc:=cL) (x:=r) (B:=24) rfl rfl rfl rfl rfl rfl rfl rfl rfl rfl rfl rfl rfl rfl rfl rfl rfl rfl rfl rfl (by omega) ?_
   refine .B ?_
   rw[hw1]
   exact T.K ih1
 ·have h5:i=c.rows.length:=by simp at h5;omega
  subst h5
  rw[DE]
  refine .B ?_
  exact⟨_,.o rfl rfl rfl (fun _=> .inl rfl) (by simp) .nil⟩
theorem u9 {d:aa}{c:Con}(h: []∈d):tabO d c=none:=if_pos h
theorem sJ (d:aa)(c:Con)(hdl:d.length*24≤140737488355328)(hx: ∀x∈d,(x.length+1)*16≤140737488355328)(hc:ConB c)(hv: ∀v∈c.vars,0≤v∧v.toNat<d.length)(hr: ∀r∈c.rows,r.length=c.vars.length)(hfew:c.rows.length≤1024):
  Spec Tryz.prog 134 false [aJ d,.agg (cC c)] (aW (tabO d c)):=by
 refine Spec.body Tryz.func134 rfl rfl rfl fun w0 Z0=> ?_
 generalize hR:tabO d c=R
 have hcb:=hc
 obtain⟨h1,h2,h3,h4⟩:=hc
 refine .B ?_
 refine T.sub (Rel.own0 (s:=6) 54 1 rfl) ?_
 refine T.K (T.listI d (fun pre=>[]∉pre) (fun n pre post=>⟨[(0,.val false (aJ d)),(3,.optr 0 0 0 0),(6,.ref 1),(15,.val false (aJ d)),(16,.val true (.int .i64 (d.map cD).length)),(17,.val true (.int .i64 n))],[(0,some (.box false (cC c))),(1,some (.sl 54 1 true (pre.map cD)))],2⟩) (fun _ _ h=>h) (by simp) ?_ ?_)
 ·rintro n pre x post h hn hi ih
  have hlt:=bY h hn
  have hxl:=hx x (by rw[h];simp)
  refine .B ?_
  refine T.ct2 rfl (bX h hn) ?_
  refine .B ?_
  refine .I (r:=cD x) (aS h hn) ?_
  refine .B ?_
  refine T.cd rfl (fun h5=> ?_) (fun h5=> ?_)
  ·have hxe:x=[]:=by simp at h5;exact h5
   have:R=none:=by rw[←hR,u9 (by rw[h,hxe];simp)]
   subst this
   refine .B ?_
   exact⟨_,.ownN rfl (.v rfl rfl rfl (fun _=>rfl) .nil)⟩
  ·have hxe:x≠[]:=fun e=>h5 (by rw[e];rfl)
   refine .B ?_
   refine .C (bQ x (by omega)).frz ?_
   refine .B ?_
   refine .V ?_
   refine J.aD rfl rfl rfl rfl rfl rfl rfl rfl rfl rfl rfl rfl rfl rfl rfl rfl rfl rfl rfl (by omega) ?_
   refine .B ?_
   rw[ak hlt (by omega)]
   exact T.K (ih (by simp[hi,Ne.symm hxe]))
 ·intro hne
  unfold tabO at hR
  rw[if_neg hne]at hR
  refine .B ?_
  refine T.cf2 rfl bl ?_
  refine .B ?_
  refine .C (u5 d c hdl (fun x hm=>by have:=hx x hm;omega) hcb hv hr).frz ?_
  have hrl:(rowsP d c).length≤1024:=D3 (DN _ _) hfew
  have hrr: ∀r∈rowsP d c,r.length=c.vars.length:=fun r hm=>hr r (List.mem_filter.1 hm).1
  generalize rowsP d c=rows at*
  refine .B ?_
  refine T.cd rfl (fun h5=> ?_) (fun h5=> ?_)
  ·have h5:rows=[]:=by simp at h5;exact h5
   rw[if_pos h5]at hR
   subst hR
   refine .B ?_
   exact⟨_,.ownN rfl (.v rfl rfl rfl (fun _=>rfl) .nil)⟩
  ·have h5: ¬rows=[]:=fun e=>h5 (by rw[e];rfl)
   rw[if_neg h5]at hR
   refine .B ?_
   refine T.K (T.ind (fun s:Nat×aa=>⟨[(6,.ref 0),(9,.val true (bR rows)),(37,.val false (av c.vars)),(38,.val true (.int .i64 (c.vars.map cI).length)),(39,.val true (.int .i64 s.1))],[(0,some (.sl 54 1 true (s.2.map cD)))],1⟩)
    (fun s=>s.1≤c.vars.length∧s.2.length=d.length∧some (gw rows (c.vars.drop s.1) s.1 s.2)=R) (fun s=>c.vars.length-s.1) (0,d) ⟨by simp,rfl,hR⟩ (fun _ _ h=>h) ?_)
   rintro⟨i,out⟩ ⟨hi,hol,hR⟩ ih
   simp only at hi hol hR
   dsimp only
   refine .B ?_
   refine T.cd rfl (fun h6=> ?_) (fun h6=> ?_)
   ·have h6:i<c.vars.length:=by simpa using h6
    have hvi:=hv _ (C5 h6)
    have hkv:(c.vars.map cI)[((i:Nat):Int).toNat]? =some (cI c.vars[i]):=aO h6
    rw[CU h6,gw]at hR
    generalize c.vars[i]=v at*
    refine .B ?_
    refine .I (r:=cI v) hkv ?_
    refine .B ?_
    refine T.sub (Rel.own0 (s:=12) 3 1 rfl) ?_
    refine T.K (T.ind (fun k:Nat=>⟨[(6,.ref 0),(9,.val true (bR rows)),(10,.val true (.int .i64 i)),(11,.val true (.int .i64 v)),(12,.ref 1),(37,.val false (av c.vars)),(38,.val true (.int .i64 (c.vars.map cI).length)),(39,.val true (.int .i64 i)),(44,.val true (bR rows)),(45,.val true (.int .i64 (rows.map cL).length)),(46,.val true (.int .i64 k))],[(0,some (.sl 54 1 true (out.map cD))),(1,some (.sl 3 1 true ((gM (rows.take k) i).map cI)))],2⟩)
     (fun k=>k≤rows.length) (fun k=>rows.length-k) 0 (by simp) (fun _ _ h=>h) ?_)
    rintro k hk ih2
    refine .B ?_
    refine T.cd rfl (fun h7=> ?_) (fun h7=> ?_)
    ·have h7:k<rows.length:=by simpa using h7
     have hrk:=hrr _ (C5 h7)
     have hrow:(rows.map cL)[((k:Nat):Int).toNat]? =some (cL rows[k]):=by simp[h7]
     have ih3:=ih2 (k+1) (by omega) (by omega)
     rw[C7 h7,show gM (rows.take k++[rows[k]]) i=gM (rows.take k) i++[rows[k].getD i 0]from DF ..]at ih3
     have hcl:(gM (rows.take k) i).length≤1024:=by simp[gM];omega
     generalize rows[k]=r at*
     have h8:i<r.length:=by omega
     refine .B ?_
     refine .I (r:=cL r) hrow ?_
     refine .B ?_
     refine .I (r:=cI r[i]) (aO h8) ?_
     refine .B ?_
     refine .V ?_
     refine J.aI rfl rfl rfl rfl rfl rfl rfl rfl rfl rfl rfl rfl rfl rfl rfl rfl rfl rfl rfl (l:=gM (rows.take k) i) (x:=r[i]) (by omega) ?_
     refine .B ?_
     rw[ak (l:=rows.length) h7 (by omega)]
     rw[show r.getD i 0=r[i]from aN h8]at ih3
     exact T.K ih3
    ·have h7:k=rows.length:=by simp at h7;omega
     subst h7
     rw[DE]
     have hcl:(gM rows i).length≤1024:=by simp[gM];omega
     have hof:=(kn (gM rows i) (by omega)).frz
     have ih3:=ih (i+1,out.set v.toNat (domOfP (gM rows i)).1) ⟨by omega,by rw[DI];exact hol,hR⟩ (by show _-_<_-_;omega)
     generalize domOfP (gM rows i)=of at*
     refine .B ?_
     refine .C hof ?_
     refine .B ?_
     refine J.io rfl rfl rfl rfl rfl rfl rfl rfl rfl hvi.1 (by simp[hol];exact hvi.2) rfl ?_
     refine J.w1 rfl rfl rfl rfl rfl rfl rfl rfl rfl rfl rfl (enc:=cD) (z:=of.1) (fun _=>rfl) (by omega) ?_
     refine .B ?_
     rw[ak (l:=c.vars.length) h6 (by omega)]
     exact T.K ih3
   ·have h6:i=c.vars.length:=by simp at h6;omega
    subst h6
    rw[De,gw]at hR
    subst hR
    refine .B ?_
    exact⟨_,.o rfl rfl rfl (fun _=> .inl rfl) (by simp) (.v rfl rfl rfl (fun _=>rfl) .nil)⟩
theorem A0 {d:aa}{c:Con}(gd:GoodD d.length d)(hc:ConB c)(h:conR d c=0)(hp:prodD d≤1048576):Spec Tryz.prog 105 false [aJ d,.agg (cC c)] (aW (bK c d)):=by
 obtain⟨hk0,hv,hr,hin⟩:=cS hc h
 have hsm:=fN gd
 suffices hh:Spec Tryz.prog (nl c.kind) false [aJ d,.agg (cC c)] (aW (bK c d))from xu hh
 have hcs:c.kind=0∨c.kind=1∨c.kind=2∨c.kind=3∨c.kind=4∨c.kind=5∨c.kind=6:=by omega
 rcases hcs with hk|hk|hk|hk|hk|hk|hk
 ·have e:bK c d=gG c d:=by unfold bK;rw[if_pos hk]
  rw[e,hk]
  exact rL gd (rt hc h hk gd.few.fine gd.few.small)
 ·have e:bK c d=gW d c.vars:=by unfold bK;rw[if_neg (by omega),if_pos hk]
  rw[e,hk]
  exact CG gd hc h hk
 ·have hrr:(∀r∈c.rows,r.length=c.vars.length)∧c.rows.length≤1024:=by
   unfold rightR at hr
   rw[if_neg (by omega),if_neg (by omega),if_pos hk]at hr
   simp only[manyR,kH,CR,decide_eq_true_eq,DA]at hr
   refine⟨fun r hrm=> ?_,hr.2.2⟩
   have:=hr.2.1 r hrm
   simp only[em,CR,decide_eq_true_eq]at this
   exact this.1
  have hp2:=sJ d c gd.few.small (fun x hx=>by have:=hsm x hx;omega) hc hv.2 hrr.1 hrr.2
  rw[←zj gd hc h hk]at hp2
  rw[hk]
  exact hp2
 ·have hrr:c.vars.Nodup∧3≤c.vars.length:=by
   unfold rightR at hr
   rw[if_neg (by omega),if_neg (by omega),if_neg (by omega),if_pos hk]at hr
   simp only[manyR,CR,decide_eq_true_eq]at hr
   exact⟨hr.1.2.2,hr.2⟩
  have hp2:=uA (n:=d.length) d c (fun _=>gd) gd.few hc hrr.1 hrr.2 hv.2
  rw[←yU gd hc h hk]at hp2
  rw[hk]
  exact hp2
 ·have e:bK c d=oc c d:=by unfold bK;rw[if_neg (by omega),if_neg (by omega),if_pos hk]
  rw[e,hk]
  exact BK gd (w7 hc h hk gd.few.fine gd.few.small)
 ·have hp2:=pD gd hc h hk
  rw[hk]
  exact hp2
 ·have e:bK c d=v6 c d:=by unfold bK;rw[if_neg (by omega),if_neg (by omega),if_neg (by omega),if_pos hk]
  rw[e,hk]
  exact Cs gd hv
theorem BN {d:aa}{c:Con}(gd:GoodD d.length d)(hc:ConB c)(h:RightC d c)(hp:prodD d≤1048576):Spec Tryz.prog 105 false [aJ d,.agg (cC c)] (aW (bK c d)):=by
 rcases h with h|⟨hk,hs⟩
 ·exact A0 gd hc h hp
 ·have e:bK c d=gG c d:=by unfold bK;rw[if_pos hk]
  suffices hh:Spec Tryz.prog (nl c.kind) false [aJ d,.agg (cC c)] (aW (bK c d))from xu hh
  rw[e,hk]
  exact rL gd hs
theorem Cn {d:List (Int×Int)}(h: ∀i,i<d.length→(d.getD i (0,0)).1≤(d.getD i (0,0)).2∧(0<i→(d.getD (i-1) (0,0)).2+2≤(d.getD i (0,0)).1)):az d:=by
 induction d with
 |nil=>exact⟨by simp,.nil⟩
 |cons x d ih=>
  have h0:=(h 0 (by simp)).1
  have h1:=ih fun i hi=>by
   obtain⟨a,b⟩:=h (i+1) (by simp;omega)
   refine⟨a,fun hp=> ?_⟩
   obtain⟨j,rfl⟩: ∃j,i=j+1:=⟨i-1,by omega⟩
   exact b (by omega)
  refine⟨fun r hr=> ?_,List.pairwise_cons.2 ⟨fun s hs=> ?_,h1.2⟩⟩
  ·rcases List.mem_cons.1 hr with rfl|hr
   ·exact h0
   ·exact h1.1 r hr
  ·cases d with
   |nil=>cases hs
   |cons y d=>
    have h2:=(h 1 (by simp)).2 (by omega)
    have h2:x.2+2≤y.1:=h2
    rcases List.mem_cons.1 hs with rfl|hs
    ·exact h2
    ·have:=(List.pairwise_cons.1 h1.2).1 s hs
     have:=h1.1 y (.head _)
     omega
theorem sS {d:List (Int×Int)}(h:az d):sizeI d=((vals d).length:Nat):=by
 induction d with
 |nil=>rfl
 |cons r d ih=>
  have h0:=h.1 r (.head _)
  have e:sizeI (r::d)=(r.2-r.1+1)+sizeI d:=rfl
  rw[e,ih h.tail,bj,CW,show(rng r.1 r.2).length=(r.2+1-r.1).toNat by simp[rng]]
  omega
theorem r7 {d:List (Int×Int)}(h:chkR d=0):Fine d∧(vals d).length≤4096:=by
 unfold chkR at h
 split at h
 ·cases h
 ·rename_i h1
  split at h
  ·cases h
  ·rename_i h2
   have hb: ∀i,i<d.length→badR d i=false:=fun i hi=>by
    cases e:badR d i with
    |false=>rfl
    |true=>exact absurd (List.any_eq_true.2 ⟨i,List.mem_range.2 hi,e⟩) h1
   have hok:az d:=Cn fun i hi=>by
    have:=hb i hi
    unfold badR at this
    simp only[FD,EU,Bool.and_eq_false_iff,decide_eq_false_iff_not]at this
    obtain⟨_,_,h5,h6⟩:=this
    refine⟨by omega,fun hp=> ?_⟩
    rcases h6 with h6|h6<;>omega
   have hs:=sS hok
   have hln:(vals d).length≤4096:=by omega
   refine⟨⟨hok,fun v hv=> ?_,by omega⟩,hln⟩
   obtain⟨r,hr,h3,h4⟩:=aT.1 hv
   obtain⟨i,hi⟩:=C9 hr
   have hil:=(List.getElem?_eq_some_iff.1 hi).1
   have:=hb i hil
   unfold badR at this
   rw[C0,hi]at this
   simp only[Dw,FD,EU,aH,decide_eq_true_eq]at this
   omega
structure Goal where
 kind:Int
 vars:List Int
 coefs:List Int
structure Mod where
 vars:List (ByteArray×List (Int×Int))
 cons:List Con
 goal:Goal
def cV (v:ByteArray×List (Int×Int)):List PV:=[.str v.1,dm v.2]
def cG (g:Goal):List PV:=[.int .i64 g.kind,av g.vars,av g.coefs]
def cM (m:Mod):List PV:=[.sl (m.vars.map cV),cN m.cons,.int .i64 m.goal.kind,av m.goal.vars,av m.goal.coefs]
def domsM (m:Mod):aa:=m.vars.map (·.2)
structure ModB (m:Mod):Prop where
 vl:m.vars.length≤1024
 vn: ∀v∈m.vars,v.1.size≤1024∧v.2.length≤1024
 cl:m.cons.length≤1024
 cb: ∀c∈m.cons,c.vars.length≤1024∧c.coefs.length≤1024∧c.rows.length≤1024∧∀r∈c.rows,r.length≤1024
 gl:m.goal.vars.length≤1024∧m.goal.coefs.length≤1024
theorem od (m:Mod)(hm:ModB m):Spec Tryz.prog 29 false [.agg (cM m)] [.own 54 1 ((domsM m).map cD)]:=by
 refine Spec.body Tryz.func29 rfl rfl rfl fun w0 Z0=> ?_
 obtain⟨h1,h2,_,_,_⟩:=hm
 refine .B ?_
 refine .O ?_
 refine .B ?_
 refine T.sub (Rel.wk (o:=1) rfl) ?_
 refine T.K (T.ind (fun i:Nat=>⟨[(1,.optr 0 0 0 0),(3,.ref 1),(4,.val true (.int .i64 i))],[(0,some (.box false (cM m))),(1,some (.sl 54 1 false (((domsM m).take i).map cD)))],2⟩) (fun i=>i≤m.vars.length) (fun i=>m.vars.length-i) 0 (DC _) (fun _ _ h=>h) ?_)
 rintro i hi ih
 refine .B ?_
 refine T.cd rfl (fun h5=> ?_) (fun h5=> ?_)
 ·have h5:i<m.vars.length:=by simpa using h5
  have hrow:(m.vars.map cV)[((i:Nat):Int).toNat]? =some (cV m.vars[i]):=by simp[h5]
  have hv:=h2 _ (C5 h5)
  have htk:(domsM m).take (i+1)=(domsM m).take i++[m.vars[i].2]:=by
   rw[C7 (by simpa[domsM]using h5)];simp[domsM]
  have hl:=List.length_take_le i (domsM m)
  have ih1:=ih (i+1) (by omega) (by omega)
  rw[htk]at ih1
  generalize (domsM m).take i=out at*
  generalize m.vars[i]=v at*
  refine .B ?_
  refine .I (r:=cV v) hrow ?_
  refine .B ?_
  refine .V ?_
  refine J.aD rfl rfl rfl rfl rfl rfl rfl rfl rfl rfl rfl rfl rfl rfl rfl rfl rfl rfl rfl (by omega) ?_
  refine .B ?_
  rw[ak (l:=m.vars.length) h5 (by omega)]
  exact T.K ih1
 ·have h5:i=m.vars.length:=by simp at h5;omega
  subst h5
  rw[CV (by simp[domsM])]
  have hli:=vZ (domsM m) (by simp[domsM];omega) fun x hx=>by
   obtain⟨v,hv,rfl⟩:=List.mem_map.1 hx
   have:=h2 v hv;omega
  generalize domsM m=d at*
  refine .B ?_
  refine .C hli ?_
  refine .B ?_
  exact⟨_,.o rfl rfl rfl (fun _=> .inl rfl) (by simp) .nil⟩
end Go.Proofs.YtopcjbahjjhdmaaGreat
