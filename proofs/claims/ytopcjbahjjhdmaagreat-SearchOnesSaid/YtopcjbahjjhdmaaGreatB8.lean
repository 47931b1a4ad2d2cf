/- The texts ShD, ShC, FvB, PvE, PvF, FvK, PvG, FvL, FvM, PuT, PvD, FvA, FvC, PvC, FvD, FvE, LiH, FvF, PuE, FvG, FvN, FvI, FvJ, FvO, FvP, FvS of the workplace, joined. -/
import Derived.Test.YtopcjbahjjhdmaaGreatB7
import Derived.Ground.SlsfProg
import Derived.Shelf.SlSortCmp.WholeK
import Derived.Test.YtopcjbahjjhdmaaGreatProg
import Derived.Shelf.Slices.CompactI
import Derived.Shelf.SlicesE.DeleteFunc
import Derived.Shelf.SlSortCmp.NoneTotal
namespace Go.Proofs.YtopcjbahjjhdmaaGreat
open Go Go.Shelf Go.RowKit
def pN:Go.Shelf.Ren:=⟨fun|6=>228|15=>124|14=>242|28=>165|29=>166|20=>244|21=>245|22=>246|23=>247|24=>248|25=>249|26=>250|27=>251|46=>252|47=>216|48=>217|49=>253|50=>254|57=>255|n=>n,fun|22=>54|24=>53|25=>215|3=>3|39=>146|0=>0|53=>173|55=>159|4=>4|46=>166|45=>165|50=>115|5=>5|9=>9|66=>204|70=>208|76=>221|77=>222|n=>n,fun|n=>n⟩
theorem qG:Go.Proofs.SlLaysF0.n6 Tryz.prog pN:= {
 mixed:=by kernel_rfl
 f6:=⟨Tryz.f228.name,by decide,Tryz.func228.trans (congrArg some (by kernel_rfl))⟩
 f14:=⟨Tryz.f242.name,by decide,Tryz.func242.trans (congrArg some (by kernel_rfl))⟩
 f15:=Tryz.func124.trans (congrArg some (by kernel_rfl))
 f20:=⟨Tryz.f244.name,by decide,Tryz.func244.trans (congrArg some (by kernel_rfl))⟩
 f21:=⟨Tryz.f245.name,by decide,Tryz.func245.trans (congrArg some (by kernel_rfl))⟩
 f22:=⟨Tryz.f246.name,by decide,Tryz.func246.trans (congrArg some (by kernel_rfl))⟩
 f23:=⟨Tryz.f247.name,by decide,Tryz.func247.trans (congrArg some (by kernel_rfl))⟩
 f24:=⟨Tryz.f248.name,by decide,Tryz.func248.trans (congrArg some (by kernel_rfl))⟩
 f25:=⟨Tryz.f249.name,by decide,Tryz.func249.trans (congrArg some (by kernel_rfl))⟩
 f26:=⟨Tryz.f250.name,by decide,Tryz.func250.trans (congrArg some (by kernel_rfl))⟩
 f27:=⟨Tryz.f251.name,by decide,Tryz.func251.trans (congrArg some (by kernel_rfl))⟩
 f28:=Tryz.func165.trans (congrArg some (by kernel_rfl))
 f29:=Tryz.func166.trans (congrArg some (by kernel_rfl))
 f46:=⟨Tryz.f252.name,by decide,Tryz.func252.trans (congrArg some (by kernel_rfl))⟩
 f47:=Tryz.func216.trans (congrArg some (by kernel_rfl))
 f48:=Tryz.func217.trans (congrArg some (by kernel_rfl))
 f49:=⟨Tryz.f253.name,by decide,Tryz.func253.trans (congrArg some (by kernel_rfl))⟩
 f50:=⟨Tryz.f254.name,by decide,Tryz.func254.trans (congrArg some (by kernel_rfl))⟩
 f57:=⟨Tryz.f255.name,by decide,Tryz.func255.trans (congrArg some (by kernel_rfl))⟩
 t0:=Tryz.underlying0
 a0:=Tryz.isAgg0
 z0:=Tryz.sizeOf0
 v0:=Tryz.zeroValue0
 t3:=Tryz.underlying3
 a3:=Tryz.isAgg3
 z3:=Tryz.sizeOf3
 v3:=Tryz.zeroValue3
 t4:=Tryz.underlying4
 a4:=Tryz.isAgg4
 z4:=Tryz.sizeOf4
 v4:=Tryz.zeroValue4
 t5:=Tryz.underlying5
 a5:=Tryz.isAgg5
 z5:=Tryz.sizeOf5
 v5:=Tryz.zeroValue5
 t9:=Tryz.underlying9
 a9:=Tryz.isAgg9
 z9:=Tryz.sizeOf9
 v9:=Tryz.zeroValue9
 t22:=Tryz.underlying54
 a22:=Tryz.isAgg54
 z22:=Tryz.sizeOf54
 v22:=Tryz.zeroValue54
 t25:=Tryz.underlying215
 a25:=Tryz.isAgg215
 z25:=Tryz.sizeOf215
 v25:=Tryz.zeroValue215
 t39:=Tryz.underlying146
 a39:=Tryz.isAgg146
 z39:=Tryz.sizeOf146
 v39:=Tryz.zeroValue146
 t45:=Tryz.underlying165
 a45:=Tryz.isAgg165
 z45:=Tryz.sizeOf165
 v45:=Tryz.zeroValue165
 t46:=Tryz.underlying166
 a46:=Tryz.isAgg166
 z46:=Tryz.sizeOf166
 v46:=Tryz.zeroValue166
 t50:=Tryz.underlying115
 a50:=Tryz.isAgg115
 z50:=Tryz.sizeOf115
 v50:=Tryz.zeroValue115
 t53:=Tryz.underlying173
 a53:=Tryz.isAgg173
 z53:=Tryz.sizeOf173
 v53:=Tryz.zeroValue173
 t55:=Tryz.underlying159
 a55:=Tryz.isAgg159
 z55:=Tryz.sizeOf159
 v55:=Tryz.zeroValue159
 t66:=Tryz.underlying204
 a66:=Tryz.isAgg204
 z66:=Tryz.sizeOf204
 v66:=Tryz.zeroValue204
 t70:=Tryz.underlying208
 a70:=Tryz.isAgg208
 z70:=Tryz.sizeOf208
 v70:=Tryz.zeroValue208
 t76:=Tryz.underlying221
 a76:=Tryz.isAgg221
 z76:=Tryz.sizeOf221
 v76:=Tryz.zeroValue221
 t77:=Tryz.underlying222
 a77:=Tryz.isAgg222
 z77:=Tryz.sizeOf222
 v77:=Tryz.zeroValue222 }
end Go.Proofs.YtopcjbahjjhdmaaGreat
namespace Go.Proofs.YtopcjbahjjhdmaaGreat
open Go Go.Shelf Go.RowKit
def mt:Go.Shelf.Ren:=⟨fun|20=>87|n=>n,fun|22=>24|3=>3|4=>4|0=>0|n=>n,fun|n=>n⟩
theorem ln:Go.Proofs.Lays2.n20 Tryz.prog mt:= {
 mixed:=by kernel_rfl
 f20:=Tryz.func87.trans (congrArg some (by kernel_rfl))
 t0:=Tryz.underlying0
 a0:=Tryz.isAgg0
 z0:=Tryz.sizeOf0
 v0:=Tryz.zeroValue0
 t3:=Tryz.underlying3
 a3:=Tryz.isAgg3
 z3:=Tryz.sizeOf3
 v3:=Tryz.zeroValue3
 t4:=Tryz.underlying4
 a4:=Tryz.isAgg4
 z4:=Tryz.sizeOf4
 v4:=Tryz.zeroValue4
 t22:=Tryz.underlying24
 a22:=Tryz.isAgg24
 z22:=Tryz.sizeOf24
 v22:=Tryz.zeroValue24
 i3:=by kernel_rfl }
open Go.RowKit Go.Lib Go.Sort in
theorem iU (blk off cap:Nat)(zs:List Int)(w:World)(hH:Holds (Value.int .i64) w blk off zs.toArray)(hsz:zs.length<=9223372036854775807)(hcap:zs.length<=cap):
  Calls Tryz.prog 87 #[.slice (some ⟨blk,off,none⟩) zs.length cap] w λe w'=>e= .returned (.slice (some ⟨blk,off,none⟩) (Lib.compact zs).length cap)/\∃q,w'=putRow (Value.int .i64) (Sort.ahead w q) blk off (Lib.compact zs++List.replicate (zs.length-(Lib.compact zs).length) 0).toArray:=Any.slices_Compact_int ln blk off cap zs w hH hsz hcap
open Go.RowKit Go.Lib Go.Sort in
theorem fu (a:Option Addr)(cap:Nat)(w:World):
  Calls Tryz.prog 87 #[.slice a 0 cap] w λe w'=>e= .returned (.slice a 0 cap)/\w'=w:=Any.slices_Compact_int_empty ln a cap w
end Go.Proofs.YtopcjbahjjhdmaaGreat
namespace Go.Proofs.YtopcjbahjjhdmaaGreat
open Go Go.RowKit Go.Sort
set_option linter.unusedVariables false
set_option linter.unusedSimpArgs false
set_option maxRecDepth 8000
theorem zX {w:World}{g cap n:Nat}{e:TypeId}{cur:Array Value}{ts:List Int}(k:Nat)(hb:w.heap[g]? =some (.cells cur e (0,0)))(hk:k<=ts.length)(hcap:ts.length<=cap)(hmax:cap<=maxLen)(hsz:cur.size=cap*1){w':World}(hw:w'=putRow (Value.int .i64) (Sort.ahead w n) g 0 ts.toArray):
  w'.os=w.os/\w'.tape=w.tape/\w'.output=w.output/\w.heap.size<=w'.heap.size/\(∀b,b<w.heap.size->b≠g->w'.heap[b]? =w.heap[b]?)/\w'.ownsRow 0 e 1 (.slice (some ⟨g,0,none⟩) k cap) k ((ts.take k).map (Value.int .i64)):=by
 subst hw;refine⟨rfl,rfl,rfl,by simp,λb hb hne=> ?_,?_⟩;·simp[putRow,mapBlock,Sort.ahead,G4,Ne.symm hne]
 ·have hh:(putRow (Value.int .i64) (Sort.ahead w n) g 0 ts.toArray).heap[g]? =some (.cells (Go.Sort.putCells (Value.int .i64) 0 ts.toArray cur) e (0,0)):=by
   simp[putRow,mapBlock,Sort.ahead,G4,hb,onCells]
  have ht:=take_putCellsI cur ts (by omega);refine⟨by simp;omega,.inr ⟨g,cap,_,rfl,Dz _,hh,by omega,hmax,by simp[Go.Sort.putCells,hsz],?_⟩⟩;rw[GS,G1,<-ht,G9,ES hk]
theorem z1 {f:FuncId} {fn:Func} {us:List Value} {cs:List Own} (l:List Int) (args:List PV) (l':List Int) (hl:l.length*8<=140737488355328) (hll:l'.length<=l.length) (hf:Tryz.prog.funcs[f]? =some fn) (hb:fn.body.isSome=true) (hn:(fn.name== "runtime.NumGoroutine")=false)
  (h0:l=[]->∀(w:World) (vs:List Value),L2 (Rep w λ_=>True) vs args->Calls Tryz.prog f (.slice none 0 0::vs).toArray w λe w'=>e= .returned (.slice none 0 0)/\w'=w)
  (h1: ∀(g cap:Nat) (w:World) (vs:List Value),Holds (Value.int .i64) w g 0 l.toArray->g<w.heap.size->l.length<=cap->cap<=maxLen->L2 (ar w λ_ b=>b≠g/\Off us b) us cs->gF us->(∀u g',u∈us->VB u g'->g'≠g)->L2 (Rep w λb=>b≠g/\Off us b) vs args->
   Calls Tryz.prog f (.slice (some ⟨g,0,none⟩) l.length cap::vs).toArray w λe w'=>e= .returned (.slice (some ⟨g,0,none⟩) l'.length cap)/\∃q,w'=putRow (Value.int .i64) (Sort.ahead w q) g 0 (l'++List.replicate (l.length-l'.length) 0).toArray):
  SpecP Tryz.prog f us cs 3 1 (l.map cI) args (l'.map cI):=by
 refine⟨⟨fn,hf,hb,hn⟩,λw Z1 v0 vs ho hz hus hap hdis hvs=> ?_⟩;obtain⟨xs,hrow,hx,_,_⟩:=ho;rw[show(l.map cI).flatten=l.map (PV.int .i64)from re _ l]at hx;obtain rfl:=pc hx;rw[D9]at hrow;obtain⟨hln,hrow⟩:=hrow;have hfin: ∀(w':World) (v:Value),w'.ownsRow 0 3 1 v l'.length (l'.map (Value.int .i64))->ar w' (λ_ b=>Z1 b/\¬VB v b) v (.sl 3 1 true (l'.map cI)):=λw' v h=>by
  refine⟨l'.map (Value.int .i64),by rw[D9];exact h,?_,λr hr=>by obtain⟨x,_,rfl⟩:=DF.1 hr;rfl,λr hr p hp=>by obtain⟨x,_,rfl⟩:=DF.1 hr;simp[cI]at hp;rw[hp];rfl⟩;rw[show(l'.map cI).flatten=l'.map (PV.int .i64)from re _ _];exact l9 _
 rcases hrow with ⟨rfl,hnil⟩|⟨g,cap,cur,rfl,_,hb,hcap,hmax,hsz,htk⟩
 ·obtain rfl:l=[]:=(by simpa using hnil);obtain rfl:l'=[]:=(by cases l' with|nil=>rfl|cons _ _=>simp at hll);refine(h0 Y w vs (hvs.imp λ_ _ h=>h.mono λ_ _ _=>⟨trivial,rfl⟩)).mono ?_;rintro e w' ⟨rfl,rfl⟩;exact⟨_,rfl,rfl,rfl,rfl,DL _,λ_ _ _=>rfl,hfin _ _ ⟨rfl,.inl ⟨rfl,rfl⟩⟩,λg hg=> .inl hg⟩
 ·have hg:g<w.heap.size:=(DR.1 hb).1;have hvb: ∀b,VB (.slice (some ⟨g,0,none⟩) l.length cap) b↔b=g:=λb=>(by simp[VB,ax];exact eq_comm);rw[GS]at htk;have hZ: ∀b,(¬VB (.slice (some ⟨g,0,none⟩) l.length cap) b/\Off us b)->b≠g/\Off us b:=λb h=>⟨λe=>h.1 ((hvb b).2 e),h.2⟩;refine(h1 g cap w vs (holds_of_blockI hb htk) hg (by simpa using hcap) hmax (hus.imp λu c h=>oI h λb hb=>hZ b hb) hap (λu g' hu hv e=>hdis u g' hu hv ((hvb g').2 e)) (hvs.imp λ_ _ h=>h.mono λb hb _=>⟨hZ b hb,rfl⟩)).mono ?_;rintro e w' ⟨rfl,q,hw⟩;have htl:(l'++List.replicate (l.length-l'.length) (0:Int)).length=l.length:=(by simp;omega);obtain⟨a1,a2,a3,a4,a5,a6⟩:=zX (ts:=l'++List.replicate (l.length-l'.length) 0) l'.length hb (by omega) (by rw[htl];simpa using hcap) hmax hsz hw;rw[GU]at a6;exact⟨_,rfl,a1,a2,a3,a4,λb hb hn=>a5 b hb λe=>hn ((hvb b).2 e),hfin _ _ a6,λg' hg'=> .inl ((hvb g').2 (by simpa[VB,ax,eq_comm]using hg'))⟩
theorem iF (l:List Int)(hl:l.length*8<=140737488355328):SpecP Tryz.prog 87 [] [] 3 1 (l.map cI) [] ((Lib.compact l).map cI):=by
 have hle:(Lib.compact l).length<=l.length:=by
  unfold Lib.compact Lib.compactUpTo;rw[D9];exact Du (EX _ _) (by simp)
 refine z1 l [] (Lib.compact l) hl hle Tryz.func87 Y Y (λh w vs hvs=> ?_) (λg cap w vs hH hg hc _ _ _ _ hvs=> ?_)
 ·cases hvs;exact fu none 0 w
 ·cases hvs;exact iU g 0 cap l w hH (by omega) hc
theorem wY {l:List Int}(h:l.Pairwise (· <= ·)):Up (Lib.compact l)/\∀x,x∈Lib.compact l↔x∈l:=by
 have hget: ∀j,j<l.length->l.toArray[j]! =l.getD j 0:=λj hj=>by
  rw[D0,D1 hj];simp[hj]
 have hle: ∀i j,i<=j->j<l.length->l.getD i 0<=l.getD j 0:=λi j hij hj=>by
  rw[D0,D0,D1 hj,D1 (by omega)];by_cases e:i=j;·subst e;exact EN _
  ·exact Fl.1 h i j (by omega) hj (by omega)
 have key: ∀m,m<=l.length->Up (Lib.compactUpTo l.toArray m)/\(∀x,x∈Lib.compactUpTo l.toArray m↔∃j,j<m/\l.getD j 0=x):=by
  intro m
  induction m with
  |zero=>intro _;exact⟨by simp[Lib.compactUpTo,Up],by simp[Lib.compactUpTo]⟩
  |succ m ih=>
   intro hm;obtain⟨h1,h2⟩:=ih (by omega);rw[Lib.compactUpTo_succ];by_cases hk:Lib.keeps l.toArray m=true
   ·rw[D4 hk,hget m (by omega)];refine⟨F4.2 ⟨h1,Em _ _,λx hx y hy=> ?_⟩,λx=> ?_⟩
    ·obtain⟨j,hj,rfl⟩:=(h2 x).1 hx;rw[DG.1 hy];have e1:=hle j (m-1) (by omega) (by omega);have e2:=hle (m-1) m (by omega) (by omega);simp only[Lib.keeps,DN]at hk;have hne:l.toArray[m]! ≠l.toArray[m-1]! :=hk.resolve_left (by omega);rw[hget m (by omega),hget (m-1) (by omega)]at hne;omega
    ·rw[DT,h2,DG];constructor
     ·rintro(⟨j,hj,e⟩|rfl);·exact⟨j,by omega,e⟩
      ·exact⟨m,by omega,rfl⟩
     ·rintro⟨j,hj,e⟩;by_cases hjm:j=m;·subst hjm;exact .inr e.symm
      ·exact .inl ⟨j,by omega,e⟩
   ·rw[D2 hk,Ex];refine⟨h1,λx=> ?_⟩;rw[h2];constructor;·rintro⟨j,hj,e⟩;exact⟨j,by omega,e⟩
    ·rintro⟨j,hj,e⟩;by_cases hjm:j=m
     ·subst hjm;simp only[Lib.keeps,DN,not_or,ne_eq,Classical.not_not]at hk;have:=hk.2;rw[hget j (by omega),hget (j-1) (by omega)]at this;exact⟨j-1,by omega,by rw[<-this];exact e⟩
     ·exact⟨j,by omega,e⟩
 obtain⟨h1,h2⟩:=key l.length (DL _);refine⟨h1,λx=> ?_⟩;rw[show Lib.compact l=Lib.compactUpTo l.toArray l.length from Y,h2];constructor
 ·rintro⟨j,hj,rfl⟩;rw[D0,D1 hj];exact D8 hj
 ·intro hx;obtain⟨j,hj,rfl⟩:=F7 hx;exact⟨j,hj,by rw[D0,D1 hj];rfl⟩
theorem iG (l:List Int):Lib.compact (cO l)=aW l:=by
 have hs:(cO l).Pairwise (· <= ·):=by
  have:=H9 (le:=λx y:Int=>decide (x<=y)) (λa b c h1 h2=>by simp at h1 h2⊢;omega) (λa b=>by simp;omega) l;exact this.imp λh=>by simpa using h
 obtain⟨h1,h2⟩:=wY hs;refine dG h1 (b9 l) λx=> ?_;rw[h2,bK];exact(Gm l _).mem_iff
theorem wv (c:Con)(hc:ConB c):Spec Tryz.prog 132 false [.agg (cC c)] [.own 3 1 ((usesR c).map cI)]:=by
 refine Spec.body Tryz.func132 Y Y Y λw0 Z0=> ?_;obtain⟨h1,h2,h3,h4⟩:=hc;unfold usesR;have hll:((if c.kind=4 then c.vars++[c.b]else c.vars):List Int).length*8<=140737488355328:=by
  split;·simp;omega
  ·omega
 have fin: ∀(l:List Int),l.length*8<=140737488355328->(cO l).length*8<=140737488355328:=λl h=>by
  rw[show(cO l).length=l.length from G3 ..];exact h
 refine .B ?_;refine .D (dU c.vars (by omega)) ?_;refine T.cd Y (λhk=> ?_) (λhk=> ?_)
 ·have hk:c.kind=4:=hk;rw[D4 hk]at hll⊢;have hf:=fin _ hll;refine .B ?_;refine .V ?_;refine J.aI Y Y Y Y Y Y Y Y Y Y Y Y Y Y Y Y Y Y Y (by omega) ?_;refine .B ?_;refine J.cm Y Y Y Y Y Y Y Y Y (km (c.vars++[c.b]) hll) Y Y Y ?_;refine .B ?_;refine J.cp (cs2:=[]) (qs:=[]) [] Y Y Y Y Y Y Y Y (iF _ hf) trivial Y Y Y Y Y Y ?_;rw[iG];refine .B ?_;exact⟨_,.o Y Y Y (λ_=> .inl Y) (by simp) .nil⟩
 ·have hk: ¬c.kind=4:=hk;rw[D2 hk]at hll⊢;have hf:=fin _ hll;refine .B ?_;refine J.cm Y Y Y Y Y Y Y Y Y (km c.vars hll) Y Y Y ?_;refine .B ?_;refine J.cp (cs2:=[]) (qs:=[]) [] Y Y Y Y Y Y Y Y (iF _ hf) trivial Y Y Y Y Y Y ?_;rw[iG];refine .B ?_;exact⟨_,.o Y Y Y (λ_=> .inl Y) (by simp) .nil⟩
end Go.Proofs.YtopcjbahjjhdmaaGreat
namespace Go.Proofs.YtopcjbahjjhdmaaGreat
open Go Go.RowKit
set_option linter.unusedVariables false
set_option linter.unusedSimpArgs false
def u3:Int->List Int->List Int
 |_,[]=>[]
 |x,y::l=>if y=x then u3 x l else y::u3 y l
theorem sE: ∀(l:List Int) (x:Int),(x::l).Pairwise (· <= ·)->Up (x::u3 x l)/\∀z,z∈x::u3 x l↔z∈x::l
 | [],x,_=>⟨Em _ _,λz=>Iff.rfl⟩
 |y::l,x,h=>by
  have h1:=Dm.1 h;have hxy:=h1.1 y (.head _);rw[u3];by_cases e:y=x
  ·subst e;rw[D4 Y];obtain⟨a,b⟩:=sE l y h1.2;refine⟨a,λz=> ?_⟩;rw[b z];simp
  ·rw[D2 e];obtain⟨a,b⟩:=sE l y h1.2;refine⟨Dm.2 ⟨λz hz=> ?_,a⟩,λz=> ?_⟩
   ·rcases DO.1 hz with rfl|hz;·omega
    ·have:=(Dm.1 a).1 z hz;omega
   ·rw[DO,b z,DO (a:=z) (b:=x)]
theorem jt: ∀(l:List Int) (o:List (Int×Int)) (lo x:Int),(x::l).Pairwise (· <= ·)->l.foldl gq (o++[(lo,x)])=o++dO lo x (u3 x l)
 | [],o,lo,x,_=>rfl
 |y::l,o,lo,x,h=>by
  have h1:=Dm.1 h;have hxy:=h1.1 y (.head _);rw[Dn,ii,u3];by_cases e:y=x
  ·subst e;rw[D4 (EN _),D4 Y];exact jt l o lo y h1.2
  ·rw[D2 (by omega),D2 e,dO];by_cases e2:y=x+1
   ·rw[D4 (by omega),D4 e2];exact jt l o lo y h1.2
   ·rw[D2 (by omega),D2 e2,jt l (o++[(lo,x)]) y y h1.2,E4];rfl
theorem vH (l:List Int):(cO l).Pairwise (· <= ·):=by
 have:=H9 (le:=λx y:Int=>decide (x<=y)) (λa b c h1 h2=>by simp at h1 h2⊢;omega) (λa b=>by simp;omega) l;exact this.imp λh=>by simpa using h
theorem vY (l:List Int):packG (cO l)=cX (aW l):=by
 have hs:=vH l;have hm: ∀z,z∈cO l↔z∈l:=λz=>(Gm l _).mem_iff;cases h:cO l with
 |nil=>
  have:aW l=[]:=F6.2 λz hz=>by
   have:=(hm z).2 ((bK z l).1 hz);rw[h]at this;cases this
  rw[this];rfl
 |cons x t=>
  rw[h]at hs;obtain⟨a,b⟩:=sE t x hs;have e:aW l=x::u3 x t:=dG (b9 l) a λz=>(by rw[bK,b z,<-h,hm]);rw[e];show t.foldl gq (gq [] x)=_;rw[qr];exact jt t [] x x hs
theorem wV {l:List Int}(hv: ∀v∈l,-1048576<=v/\v<=1048576)(hn:l.length<=4096):domOfP l=(cX (aW l),0):=by
 have hv2: ∀v∈aW l,-1048576<=v/\v<=1048576:=λv h=>hv v ((bK v l).1 h);have hln:=fk l;have hf:Fine (cX (aW l)):=kr (b9 l) hv2 (by omega);unfold domOfP;rw[vY,od hf,bJ (b9 l),D4 (DI.2 λv hm=>by simpa[aH]using hv v hm),D2 (by omega)]
def kW (d:aa)(vars r:List Int):Bool:=(vars.zip r).all λp=>hasV (domAt d p.1) p.2
def rowsP (d:aa)(c:Con):List (List Int):=c.rows.filter (kW d c.vars)
def gX (rows:List (List Int))(i:Nat):List Int:=rows.map λr=>r.getD i 0
def gH (rows:List (List Int)):List Int->Nat->aa->aa
 | [],_,out=>out
 |v::vs,i,out=>gH rows vs (i+1) (out.set v.toNat (domOfP (gX rows i)).1)
def tabO (d:aa)(c:Con):Option aa:=if []∈d then none else if rowsP d c=[]then none else some (gH (rowsP d c) c.vars 0 d)
theorem qa (rows:List (List Int)): ∀(vs:List Int) (i:Nat) (out:aa),(gH rows vs i out).length=out.length
 | [],_,_=>rfl
 |v::vs,i,out=>by rw[gH,qa rows vs];simp
theorem ta (rows:List (List Int)): ∀(vs:List Int) (i:Nat) (out:aa),vs.Nodup->(∀v∈vs,0<=v/\v.toNat<out.length)->∀k:Nat,
  ((k:Int)∉vs->(gH rows vs i out)[k]? =out[k]?)/\∀j,vs[j]? =some (k:Int)->(gH rows vs i out)[k]? =some (domOfP (gX rows (i+j))).1
 | [],i,out,_,_,k=>⟨λ_=>rfl,λj hj=>by simp at hj⟩
 |v::vs,i,out,hn,h0,k=>by
  have hn2:=ED.1 hn;have hv:=h0 v (.head _);obtain⟨h1,h2⟩:=ta rows vs (i+1) (out.set v.toNat (domOfP (gX rows i)).1) hn2.2 (λu hu=>by rw[E7];exact h0 u (.tail _ hu)) k;rw[gH];refine⟨λhk=> ?_,λj hj=> ?_⟩
  ·have hne:v≠(k:Int):=λe=>hk (by rw[e];exact .head _);rw[h1 λh=>hk (.tail _ h),Ds (by omega)]
  ·cases j with
   |zero=>
    simp at hj;rw[h1 (by rw[<-hj];exact hn2.1)];have:v.toNat=k:=(by omega);rw[this,E6 (by rw[<-this];exact hv.2)];rfl
   |succ j=>
    rw[h2 j (by simpa using hj)];congr 4;omega
theorem rE {vars r:List Int}{p:Int->Int->Bool}(hl:r.length=vars.length):((vars.zip r).all λq=>p q.1 q.2)=true↔∀(j:Nat) v,vars[j]? =some v->p v (r.getD j 0)=true:=by
 rw[DI];constructor
 ·intro h j v hj;have hlt:=(D5.1 hj).1;have hr:r[j]? =some (r.getD j 0):=(by rw[D0,D1 (by omega)];rfl);exact h (v,r.getD j 0) (D7 (i:=j) (Ev.2 ⟨hj,hr⟩))
 ·rintro h ⟨v,x⟩ hm;obtain⟨j,hj⟩:=DH hm;rw[Ev]at hj;have:=h j v hj.1;rw[D0,hj.2]at this;exact this
theorem zF {n:Nat}{d:aa}{c:Con}(gd:GoodD n d)(hc:ConB c)(h:conR d c=0)(hk:c.kind=2):bL c d=tabO d c:=by
 obtain⟨_,hv,hr,hin⟩:=cQ hc h;have hu:usesR c=aW c.vars:=(by unfold usesR;rw[D2 (by omega)]);have hrr:c.vars.Nodup/\(∀r∈c.rows,r.length=c.vars.length/\∀x∈r,-1048576<=x/\x<=1048576)/\c.rows.length<=1024:=by
  unfold rightR at hr;rw[D2 (by omega),D2 (by omega),D4 hk]at hr;simp only[manyR,kU,DJ,DN,DI]at hr;refine⟨hr.1.2.2,λr hrm=> ?_,hr.2.2⟩;have:=hr.2.1 r hrm;simp only[ez,aH,DJ,DN,DI]at this;exact⟨this.1,λx hx=>by have:=this.2 x hx;omega⟩
 obtain⟨hnod,hrow,hfew⟩:=hrr;have hnd:(usesR c).Nodup:=dA (b9 _);have hmem: ∀u,u∈usesR c↔u∈c.vars:=λu=>(by rw[hu];exact bK u _);have hP: ∀f:Int->Int,holdsR c (eC d.length (usesR c) ((usesR c).map f) (usesR c).length)=true↔c.vars.map f∈c.rows:=λf=>by
  have hpk:pickedR c.vars (eC d.length (usesR c) ((usesR c).map f) (usesR c).length)=c.vars.map f:=EJ λv hv=>lO f hin ((hmem v).2 hv);unfold holdsR;rw[D2 (by omega),D2 (by omega),D4 hk,hpk,EZ];constructor;·rintro⟨r,h1,h2⟩;rw[<-EL h2];exact h1
  ·exact λh1=>⟨_,h1,DD Y⟩
 have hri: ∀r∈c.rows,kW d c.vars r=true↔∀(j:Nat) v,c.vars[j]? =some v->r.getD j 0∈vals (domAt d v):=λr hrm=>by
  unfold kW;rw[rE (p:=λv x=>hasV (domAt d v) x) (hrow r hrm).1];exact forall_congr' λj=>forall_congr' λv=>imp_congr_right λ_=>dc
 have hsupp: ∀v∈c.vars,∀x,pJ d (usesR c) (λt=>holdsR c (eC d.length (usesR c) t (usesR c).length)) v x↔∃r∈rowsP d c,r.getD (c.vars.idxOf v) 0=x:=λv hv x=>by
  have hiv:c.vars.idxOf v<c.vars.length:=FB.2 hv;constructor
  ·rintro⟨f,h1,h2,rfl⟩;have h2:=(hP f).1 h2;refine⟨c.vars.map f,EH.2 ⟨h2,(hri _ h2).2 λj v hj=> ?_⟩,?_⟩
   ·rw[D0,DE,hj];exact h1 v ((hmem v).2 (D7 hj))
   ·rw[D0,DE,D1 hiv,Fj];rfl
  ·rintro⟨r,hr,rfl⟩;obtain⟨hrm,hro⟩:=EH.1 hr;have hro:=(hri r hrm).1 hro;refine⟨λu=>r.getD (c.vars.idxOf u) 0,λu hu=> ?_,(hP _).2 ?_,rfl⟩
   ·have hm:=(hmem u).1 hu;refine hro (c.vars.idxOf u) u ?_;rw[D1 (FB.2 hm),Fj]
   ·have:c.vars.map (λu=>r.getD (c.vars.idxOf u) 0)=r:=by
     refine FU (by rw[D9,(hrow r hrm).1]) λj h1 h2=> ?_;have hj:j<c.vars.length:=(by simpa using h1);rw[FV,hnod.idxOf_getElem j hj,D0,D1 h2];rfl
    rw[this];exact hrm
 have hcol: ∀j,j<c.vars.length->(domOfP (gX (rowsP d c) j)).1=cX (aW (gX (rowsP d c) j)):=λj hj=>by
  have h1: ∀x∈gX (rowsP d c) j,-1048576<=x/\x<=1048576:=λx hx=>by
   obtain⟨r,hr,rfl⟩:=DF.1 hx;have hrm:=(EH.1 hr).1;have hl:=(hrow r hrm).1;rw[D0,D1 (by omega)];exact(hrow r hrm).2 _ (D8 _)
  have h2:(gX (rowsP d c) j).length<=4096:=by
   have:(rowsP d c).length<=c.rows.length:=EX _ _;simp only[gX,D9];omega
  rw[wV h1 h2]
 have hat:=ta (rowsP d c) c.vars 0 d hnod hv.2;have hdat: ∀v∈c.vars,∃y,(gH (rowsP d c) c.vars 0 d)[v.toNat]? =some y/\aA y/\∀x,x∈vals y↔∃r∈rowsP d c,r.getD (c.vars.idxOf v) 0=x:=λv hvm=>by
  have hiv:c.vars.idxOf v<c.vars.length:=FB.2 hvm;have h0:=hv.2 v hvm;have e:((v.toNat:Nat):Int)=v:=(by omega);have h3:=(hat v.toNat).2 (c.vars.idxOf v) (by rw[e,D1 hiv,Fj]);rw[Ew,hcol _ hiv]at h3;refine⟨_,h3,gp (b9 _),λx=> ?_⟩;rw[bJ (b9 _),bK];unfold gX;rw[DF]
 unfold bL tabO;rw[D2 (by omega),D2 (by omega),D2 (by omega),D2 (by omega),D2 gd.some'];unfold lC;rw[D2 gd.some'];have hpos:c.vars≠[]:=λe=>by
  unfold rightR at hr;rw[D2 (by omega),D2 (by omega),D4 hk]at hr;simp only[manyR,DJ,DN]at hr;have:=hr.1.2.1;rw[e]at this;simp at this
 rw[nO (out:=gH (rowsP d c) c.vars 0 d) hnd hin (qa _ _ _ _) (λx hx=> ?_) (λv hvm x=> ?_) (λi hi=>(hat i).1 λhm=>hi ((hmem _).2 hm))]
 ·unfold mP;by_cases hr0:rowsP d c=[]
  ·rw[D4 hr0,D4];obtain⟨v,hvm⟩:=Eu _ hpos;obtain⟨y,hy,hok,hx⟩:=hdat v hvm;have:y=[]:=(fg hok).1 (F6.2 λx hxm=>by
    obtain⟨r,hr,_⟩:=(hx x).1 hxm;rw[hr0]at hr;cases hr)
   exact this▸D7 hy
  ·rw[D2 hr0,D2];intro hm;obtain⟨k,hk2⟩:=DH hm;by_cases hkv:(k:Int)∈c.vars
   ·obtain⟨y,hy,hok,hx⟩:=hdat _ hkv;rw[DW,hk2]at hy;obtain rfl:=D3 hy;obtain⟨r,hr⟩:=Eu _ hr0;have:=(hx _).2 ⟨r,hr,rfl⟩;cases this
   ·rw[(hat k).1 hkv]at hk2;exact gd.some' (D7 hk2)
 ·obtain⟨k,hk2⟩:=DH hx;by_cases hkv:(k:Int)∈c.vars
  ·obtain⟨y,hy,hok,_⟩:=hdat _ hkv;rw[DW,hk2]at hy;exact D3 hy▸hok
  ·rw[(hat k).1 hkv]at hk2;exact(gd.few.fine x (D7 hk2)).ok
 ·have hvc:=(hmem v).1 hvm;obtain⟨y,hy,_,hx⟩:=hdat v hvc;have:domAt (gH (rowsP d c) c.vars 0 d) v=y:=by
   unfold domAt;rw[D0,hy];rfl
  rw[this,hx,hsupp v hvc]
theorem lP {x:Int×Int}{a:List (Int×Int)}(h:aA (x::a)){v:Int}(hv:v∈vals a):x.2+2<=v:=by
 obtain⟨s,hs,h4,h5⟩:=aT.1 hv;have:=(Dm.1 h.2).1 s hs;omega
theorem nJ: ∀(n:Nat) (a b:List (Int×Int)),a.length+b.length<=n->aA a->aA b->aA (bB a b)/\(∀r∈bB a b,∃s∈a,s.1<=r.1/\r.2<=s.2)/\(∀r∈bB a b,∃s∈b,s.1<=r.1/\r.2<=s.2)/\∀v,v∈vals (bB a b)↔v∈vals a/\v∈vals b
 |_,[],b,_,_,_=>by rw[nL];exact⟨⟨by simp,.nil⟩,by simp,by simp,by simp[vals]⟩
 |_,x::a,[],_,_,_=>by rw[nK];exact⟨⟨by simp,.nil⟩,by simp,by simp,by simp[vals]⟩
 |0,x::a,y::b,hn,_,_=>by simp at hn
 |n+1,x::a,y::b,hn,ha,hb=>by
  have hx:=ha.1 x (.head _);have hy:=hb.1 y (.head _);have hpa:=(Dm.1 ha.2).1;have hpb:=(Dm.1 hb.2).1;rw[im];have key:aA (if x.2<y.2 then bB a (y::b)else bB (x::a) b)/\(∀r∈(if x.2<y.2 then bB a (y::b)else bB (x::a) b),(∃s∈x::a,s.1<=r.1/\r.2<=s.2)/\(∃s∈y::b,s.1<=r.1/\r.2<=s.2)/\min x.2 y.2+2<=r.1)/\
    ∀v,v∈vals (if x.2<y.2 then bB a (y::b)else bB (x::a) b)↔(v∈vals (x::a)/\v∈vals (y::b))/\min x.2 y.2<v:=by
   by_cases hlt:x.2<y.2
   ·rw[D4 hlt];obtain⟨h1,h2,h3,h4⟩:=nJ n a (y::b) (by simp at hn⊢;omega) ha.tail hb;refine⟨h1,λr hr=> ?_,λv=> ?_⟩
    ·obtain⟨s,hs,h5,h6⟩:=h2 r hr;have:=hpa s hs;exact⟨⟨s,.tail _ hs,h5,h6⟩,h3 r hr,by omega⟩
    ·rw[h4,bj x a,DT,cF];constructor
     ·rintro⟨h5,h6⟩;have:=lP ha h5;exact⟨⟨.inr h5,h6⟩,by omega⟩
     ·rintro⟨⟨h5|h5,h6⟩,h7⟩;·omega
      ·exact⟨h5,h6⟩
   ·rw[D2 hlt];obtain⟨h1,h2,h3,h4⟩:=nJ n (x::a) b (by simp at hn⊢;omega) ha hb.tail;refine⟨h1,λr hr=> ?_,λv=> ?_⟩
    ·obtain⟨s,hs,h5,h6⟩:=h3 r hr;have:=hpb s hs;exact⟨h2 r hr,⟨s,.tail _ hs,h5,h6⟩,by omega⟩
    ·rw[h4,bj y b,DT,cF];constructor
     ·rintro⟨h5,h6⟩;have:=lP hb h6;exact⟨⟨h5,.inr h6⟩,by omega⟩
     ·rintro⟨⟨h5,h6|h6⟩,h7⟩;·omega
      ·exact⟨h5,h6⟩
  generalize (if x.2<y.2 then bB a (y::b)else bB (x::a) b)=t at*;obtain⟨t1,t2,t3⟩:=key;have hmem: ∀v,v<=min x.2 y.2->(v∈vals (x::a)/\v∈vals (y::b)↔max x.1 y.1<=v):=λv hv=>by
   rw[bj,bj,DT,DT,cF,cF];constructor
   ·rintro⟨h5|h5,h6|h6⟩;·omega
    ·have:=lP hb h6;omega
    ·have:=lP ha h5;omega
    ·have:=lP ha h5;omega
   ·intro h5;exact⟨.inl (by omega),.inl (by omega)⟩
  by_cases hc:max x.1 y.1<=min x.2 y.2
  ·rw[D4 hc];refine⟨⟨λr hr=> ?_,Dm.2 ⟨λr hr=> ?_,t1.2⟩⟩,λr hr=> ?_,λr hr=> ?_,λv=> ?_⟩
   ·rcases DO.1 hr with rfl|hr;·exact hc
    ·exact t1.1 r hr
   ·have:=(t2 r hr).2.2;simp only;omega
   ·rcases DO.1 hr with rfl|hr;·exact⟨x,.head _,by simp only;omega,by simp only;omega⟩
    ·exact(t2 r hr).1
   ·rcases DO.1 hr with rfl|hr;·exact⟨y,.head _,by simp only;omega,by simp only;omega⟩
    ·exact(t2 r hr).2.1
   ·rw[List.singleton_append,bj,DT,cF,t3];by_cases hv:v<=min x.2 y.2
    ·rw[hmem v hv];simp only;omega
    ·simp only;constructor
     ·rintro(h5|h5);·omega
      ·exact h5.1
     ·exact λh5=> .inr ⟨h5,by omega⟩
  ·rw[D2 hc,Ea];refine⟨t1,λr hr=>(t2 r hr).1,λr hr=>(t2 r hr).2.1,λv=> ?_⟩;rw[t3];constructor;·exact λh=>h.1
   ·intro h;refine⟨h,E0 λhv=> ?_⟩;have:=(hmem v (by omega)).1 h;omega
theorem Ap {a b:List (Int×Int)}(ha:aA a)(hb:aA b):aA (bB a b)/\∀v,v∈vals (bB a b)↔v∈vals a/\v∈vals b:=
 ⟨(nJ _ a b (DL _) ha hb).1,(nJ _ a b (DL _) ha hb).2.2.2⟩
def uA (out:List (Int×Int))(x:Int×Int):List (Int×Int):=match out.getLast? with
 |none=>out++[x]
 |some r=>if x.1<=r.2+1 then out.dropLast++[(r.1,max r.2 x.2)]else out++[x]
def joinG (l:List (Int×Int)):List (Int×Int):=l.foldl uA []
theorem jz (x:Int×Int):uA [] x=[x]:=rfl
theorem ir (o:List (Int×Int))(r x:Int×Int):uA (o++[r]) x=if x.1<=r.2+1 then o++[(r.1,max r.2 x.2)]else o++[r]++[x]:=by
 unfold uA;rw[List.getLast?_append];simp
theorem iu (l:List (Int×Int))(x:Int×Int):joinG (l++[x])=uA (joinG l) x:=by simp[joinG]
theorem snocInd {α:Type}{P:List α->Prop}(h0:P [])(h1: ∀l x,P l->P (l++[x]))(l:List α):P l:=by
 have key: ∀l:List α,P l.reverse:=by
  intro l
  induction l with
  |nil=>exact h0
  |cons x l ih=>rw[List.reverse_cons];exact h1 _ _ ih
 have:=key l.reverse;rwa[List.reverse_reverse]at this
theorem y0 (l:List (Int×Int)):(joinG l).length<=l.length:=by
 refine snocInd (P:=λl=>(joinG l).length<=l.length) (by simp[joinG]) (λl x ih=> ?_) l
 ·show(joinG (l++[x])).length<=(l++[x]).length;rw[iu];rcases F9 (joinG l)with h|⟨o,r,h⟩;·rw[h,jz];simp
  ·rw[h,F0,ir];rw[h,F0]at ih;split<;>simp at ih⊢ <;>omega
theorem BC: ∀(l:List (Int×Int)),(∀r∈l,r.1<=r.2)->l.Pairwise (λr s=>r.1<=s.1)->aA (joinG l)/\(∀r∈joinG l,∃s∈l,r.1=s.1)/\∀v,v∈vals (joinG l)↔∃r∈l,r.1<=v/\v<=r.2:=by
 intro l;refine snocInd (P:=λl=>(∀r∈l,r.1<=r.2)->l.Pairwise (λr s=>r.1<=s.1)->aA (joinG l)/\(∀r∈joinG l,∃s∈l,r.1=s.1)/\∀v,v∈vals (joinG l)↔∃r∈l,r.1<=v/\v<=r.2) (λ_ _=>⟨⟨by simp[joinG],.nil⟩,by simp[joinG],by simp[joinG,vals]⟩) (λl x ih=> ?_) l
 ·intro h1 h2;have hp:=F4.1 h2;obtain⟨i1,i2,i3⟩:=ih (λr hr=>h1 r (Do _ hr)) hp.1;have hx:=h1 x (Dq _ (.head _));have hle: ∀r∈joinG l,r.1<=x.1:=λr hr=>by
   obtain⟨s,hs,e⟩:=i2 r hr;rw[e];exact hp.2.2 s hs x (.head _)
  have hmem: ∀v,(∃r∈l++[x],r.1<=v/\v<=r.2)↔v∈vals (joinG l)∨(x.1<=v/\v<=x.2):=λv=>by
   rw[i3];constructor
   ·rintro⟨r,hr,h⟩;rcases DT.1 hr with hr|hr;·exact .inl ⟨r,hr,h⟩
    ·rw[DG.1 hr]at h;exact .inr h
   ·rintro(⟨r,hr,h⟩|h);·exact⟨r,Do _ hr,h⟩
    ·exact⟨x,Dq _ (.head _),h⟩
  rw[iu];rcases F9 (joinG l)with h|⟨o,r,h⟩
  ·rw[h]at hmem⊢;rw[jz];refine⟨⟨by simp;omega,Em _ _⟩,λr hr=>⟨x,Dq _ (.head _),by rw[DG.1 hr]⟩,λv=> ?_⟩;rw[hmem];simp[vals,cF]
  ·rw[h,F0]at i1 i2 hle hmem⊢;rw[ir];obtain⟨a1,a2⟩:=i1;have hpo:=F4.1 a2;have hr:=a1 r (Dq _ (.head _));have hrx:=hle r (Dq _ (.head _));have vs: ∀(o:List (Int×Int)) (v:Int),v∈vals (o++[r])↔v∈vals o∨(r.1<=v/\v<=r.2):=λo v=>(by simp[vals,cF]);by_cases hc:x.1<=r.2+1
   ·rw[D4 hc];refine⟨⟨λs hs=> ?_,F4.2 ⟨hpo.1,Em _ _,λs hs t ht=> ?_⟩⟩,λs hs=> ?_,λv=> ?_⟩
    ·rcases DT.1 hs with hs|hs;·exact a1 s (Do _ hs)
     ·rw[DG.1 hs];simp only;omega
    ·rw[DG.1 ht];exact hpo.2.2 s hs r (.head _)
    ·rcases DT.1 hs with hs|hs
     ·obtain⟨t,ht,e⟩:=i2 s (Do _ hs);exact⟨t,Do _ ht,e⟩
     ·obtain⟨t,ht,e⟩:=i2 r (Dq _ (.head _));exact⟨t,Do _ ht,by rw[DG.1 hs];exact e⟩
    ·rw[hmem,vs];have:v∈vals (o++[(r.1,max r.2 x.2)])↔v∈vals o∨(r.1<=v/\v<=max r.2 x.2):=(by simp[vals,cF]);rw[this];constructor
     ·rintro(h5|h5);·exact .inl (.inl h5)
      ·by_cases h6:v<=r.2;·exact .inl (.inr ⟨h5.1,h6⟩)
       ·exact .inr (by omega)
     ·rintro((h5|h5)|h5);·exact .inl h5
      ·exact .inr (by omega)
      ·exact .inr (by omega)
   ·rw[D2 hc];refine⟨⟨λs hs=> ?_,F4.2 ⟨a2,Em _ _,λs hs t ht=> ?_⟩⟩,λs hs=> ?_,λv=> ?_⟩
    ·rcases DT.1 hs with hs|hs;·exact a1 s hs
     ·rw[DG.1 hs];exact hx
    ·rw[DG.1 ht];rcases DT.1 hs with hs|hs;·have:=hpo.2.2 s hs r (.head _);omega
     ·rw[DG.1 hs];omega
    ·rcases DT.1 hs with hs|hs
     ·obtain⟨t,ht,e⟩:=i2 s hs;exact⟨t,Do _ ht,e⟩
     ·exact⟨x,Dq _ (.head _),by rw[DG.1 hs]⟩
    ·rw[hmem];simp[vals,cF,or_assoc]
end Go.Proofs.YtopcjbahjjhdmaaGreat
namespace Go.Proofs.YtopcjbahjjhdmaaGreat
open Go Go.RowKit Go.Sort
set_option linter.unusedVariables false
set_option linter.unusedSimpArgs false
set_option maxRecDepth 8000
def RB:Type:= {r:Int×Int // -2097152<=r.1/\r.1<=2097152}
def rb0:RB:=⟨(0,0),by decide,by decide⟩
instance:Inhabited RB:=⟨rb0⟩
def dR (x:RB):List Value:=[.int .i64 x.1.1,.int .i64 x.1.2]
def nz (x y:RB):Int:=x.1.1-y.1.1
theorem Bv (x y:RB):ltOf nz x y=decide (x.1.1<y.1.1):=by
 unfold ltOf nz;by_cases h:x.1.1<y.1.1;·simp[h];omega
 ·simp[h];omega
theorem BZ:SWO (ltOf nz) where
 irrefl x:=by rw[Bv];simp
 trans x y z h1 h2:=by rw[Bv]at *;simp at *;omega
 ntrans x y z h1 h2:=by rw[Bv]at *;simp at *;omega
theorem C7 (x y:RB)(W:World):Calls Tryz.prog 229 #[.agg (dR x).toArray,.agg (dR y).toArray] W λe w'=>e= .returned (.int .i64 (nz x y))/\∃q os',w'=grow (W.drewN q) os':=by
 have hw:IntKind.i64.wrap (x.1.1-y.1.1)=x.1.1-y.1.1:=af (by have:=x.2;have:=y.2;omega) (by have:=x.2;have:=y.2;omega);unfold dR nz
 go_enter Tryz.func229,Tryz.ntmps229
 go_wp2
 go_ret
 exact⟨rfl,0,_,by rw[alloc_eq_grow,alloc_eq_grow,grow_grow];rfl⟩
theorem Cr (l:List RB):(flatK dR 2 l.toArray).toList=(l.map dR).flatten:=by
 have key: ∀(l:List RB) (t:Nat),t<l.length*2->((l.map dR).flatten)[t]? =some (dR l[t / 2]!)[t % 2]! :=by
  intro l
  induction l with
  |nil=>intro t h;simp at h
  |cons x l ih=>
   intro t h
   match t with
   |0=>rfl
   |1=>rfl
   |t+2=>
    rw[DZ,EP,show(dR x)=[.int .i64 x.1.1,.int .i64 x.1.2]from Y];rw[show∀(a b:Value) (m:List Value),([a,b]++m)[t+2]? =m[t]? from λ_ _ _=>rfl,ih t (by simp at h;omega)];rw[show(t+2) / 2=t / 2+1 by omega,show(t+2) % 2=t % 2 by omega];rfl
 have hlen:((l.map dR).flatten).length=l.length*2:=by
  induction l with
  |nil=>rfl
  |cons x l ih=>rw[DZ,EP,DX,ih];simp[dR];omega
 refine FU (by rw[EI,size_flatK,hlen];rfl) λt h1 h2=> ?_;have ht:t<l.length*2:=(by rw[<-hlen];exact h2);have h3:=key l t ht;rw[D1 h2]at h3;have h4:=get_flatK dR 2 l.toArray t (by simpa using ht);rw[getElem!_pos _ t (by simpa using ht)]at h4;rw[Array.getElem_toList,h4,D3 h3];simp
theorem wL {w:World}{g:Nat}{cur:Array Value}{e:TypeId}{F:Array Value}(hb:w.heap[g]? =some (.cells cur e (0,0)))(ht:cur.toList.take F.size=F.toList):Holds id w g 0 F:=by
 intro j hj;refine⟨?_,by simp[World.frozen?,hb]⟩;have h1:(cur.toList.take F.size)[j]? =F.toList[j]? :=(by rw[ht]);rw[Ez hj]at h1;simp only[World.cell?,hb,Ew];simp only[Gq,EF,if_false];rw[<-Eo,h1];simp[hj]
theorem rJ (cur F:Array Value)(h:F.size<=cur.size):(Go.Sort.putCells id 0 F cur).toList.take F.size=F.toList:=by
 apply Ej;intro j;by_cases hj:j<F.size
 ·rw[Ez hj,Eo];simp[Go.Sort.putCells,hj,show j<cur.size by omega]
 ·rw[List.getElem?_take_eq_none (by omega),EB (by simp;omega)]
def iT (r:Int×Int):RB:=if h: -2097152<=r.1/\r.1<=2097152 then⟨r,h⟩else rb0
def sortR (l:List (Int×Int)):List (Int×Int):=((pdq (ltOf nz) (l.map iT).toArray 0 l.length (Lib.bitLen l.length) true true).toList).map (·.1)
theorem s8 {l:List (Int×Int)}(h: ∀r∈l,-2097152<=r.1/\r.1<=2097152):(l.map iT).map (·.1)=l:=by
 rw[F3]
 conv=>rhs;rw[<-List.map_id l]
 refine EJ λr hr=> ?_;simp[iT,h r hr]
theorem n9 {l:List (Int×Int)}(h: ∀r∈l,-2097152<=r.1/\r.1<=2097152):(sortR l).Perm l/\(sortR l).Pairwise (λr s=>r.1<=s.1):=by
 have hs:(l.map iT).toArray.size=l.length:=(by simp);have hp:=pdq_sorts (ltOf nz) BZ (l.map iT).toArray 0 (l.map iT).toArray.size (Lib.bitLen (l.map iT).toArray.size) true true (Dz _) (DL _) (Or.inl Y);rw[hs]at hp;unfold sortR;generalize pdq (ltOf nz) (l.map iT).toArray 0 l.length (Lib.bitLen l.length) true true=d' at hp⊢;obtain⟨⟨h1,_,h3⟩,h4⟩:=hp;rw[hs]at h1;have e1:(d'.extract 0 l.length).toList=d'.toList:=(by rw[<-h1];simp);have e2:((l.map iT).toArray.extract 0 l.length).toList=l.map iT:=(by simp[DS]);rw[e1,e2]at h3;refine⟨?_,?_⟩
 ·have:=h3.map (·.1);rwa[s8 h]at this
 ·rw[H0,Fl];intro i j hi hj hij;have:=h4 i j (Dz _) hij (by rw[<-h1];simpa using hj);rw[Bv,getElem!_pos _ i (by simpa using hi),getElem!_pos _ j (by simpa using hj)]at this;simp at this;simpa using this
theorem oD {w:World}{Z:Nat->Prop}: ∀{l:List (Int×Int)} {vs:List Value},L2 (Rep w Z) vs (l.map cR).flatten->vs=(l.map λr=>[Value.int .i64 r.1,Value.int .i64 r.2]).flatten
 | [],_,.nil=>rfl
 |r::l,_,.cons h1 (.cons h2 h3)=>by
  cases h1;cases h2;rw[oD h3];rfl
theorem oz {w:World}{Z:Nat->Prop}: ∀(l:List (Int×Int)),L2 (Rep w Z) (l.map λr=>[Value.int .i64 r.1,Value.int .i64 r.2]).flatten (l.map cR).flatten
 | []=> .nil
 |r::l=> .cons (.int _ _) (.cons (.int _ _) (oz l))
theorem xT {l:List (Int×Int)}(m:List RB)(h:m.map (·.1)=l):(flatK dR 2 m.toArray).toList=(l.map λr=>[Value.int .i64 r.1,Value.int .i64 r.2]).flatten:=by
 rw[Cr,<-h,F3];rfl
theorem tc (l:List (Int×Int))(hl:l.length*16<=140737488355328)(hb: ∀r∈l,-2097152<=r.1/\r.1<=2097152):SpecM Tryz.prog 228 53 2 (l.map cR) [.fn (.func 229) [] []] ((sortR l).map cR) []:=by
 have hsl:(sortR l).length=l.length:=(n9 hb).1.length_eq;refine⟨⟨_,Tryz.func228,rfl,rfl⟩,λp hp=>(by cases hp),λw Z1 v0 vs ho hz hvs=> ?_⟩;cases hvs with
 |cons hf hvs=>
 cases hvs;cases hf with
 |fn _ us vs _ _ hu hc=>
 cases hu;cases hc;obtain⟨xs,hrow,hx,h1,h2⟩:=ho;obtain rfl:=oD hx;rw[D9]at hrow;obtain⟨hln,hrow⟩:=hrow;have hflen: ∀m:List (Int×Int),((m.map λr=>[Value.int .i64 r.1,Value.int .i64 r.2]).flatten).length=m.length*2:=λm=>by
  induction m with
  |nil=>rfl
  |cons r m ih=>rw[DZ,EP,DX,ih];simp;omega
 rcases hrow with ⟨rfl,hnil⟩|⟨g,cap,cur,rfl,_,hbk,hcap,hmax,hsz,htk⟩
 ·obtain rfl:l=[]:=(by simpa using hnil);refine(AnyF.slices_SortFunc_none qG none 0 _ w).mono ?_;rintro e w' ⟨rfl,rfl⟩;have hn:sortR []=[]:=DP hsl;refine⟨[],rfl,rfl,rfl,rfl,DL _,λ_ _ _=>rfl,?_,.nil⟩;rw[hn];refine⟨[],⟨rfl,.inl ⟨rfl,rfl⟩⟩,.nil,?_,?_⟩<;>(intro r hr;cases hr)
 ·have hg:g<w.heap.size:=(DR.1 hbk).1;have hfl:=xT (l.map iT) (s8 hb);have hfs:(flatK dR 2 (l.map iT).toArray).size=l.length*2:=(by simp);have hH:HoldsK dR 2 w g 0 (l.map iT).toArray:=wL hbk (by rw[hfs,hfl];exact htk);have hcon:=AnyQ.slices_SortFunc_eq qG 2 Tryz.isAgg53 Tryz.sizeOf53 dR (λ_=>rfl) (λx v hv=>by simp[dR]at hv;rcases hv with rfl|rfl<;>rfl) nz BZ 229 #[] g 0 cap (l.map iT).toArray w
   (enters_of Tryz.func229 (by kernel_rfl) Y) (λ_ _ _ _ x y=>C7 x y _) hH hg (by simp;omega)
  rw[show(l.map iT).toArray.size=l.length by simp]at hcon;refine hcon.mono ?_;rintro e w' ⟨rfl,n,os,rfl⟩;have hpz:(pdq (ltOf nz) (l.map iT).toArray 0 l.length (Lib.bitLen l.length) true true).size=l.length:=by
   have:=hsl;unfold sortR at this;simpa using this
  have hfl2:=xT (l:=sortR l) (pdq (ltOf nz) (l.map iT).toArray 0 l.length (Lib.bitLen l.length) true true).toList Y;generalize pdq (ltOf nz) (l.map iT).toArray 0 l.length (Lib.bitLen l.length) true true=d' at hpz hfl2⊢;have hfs2:(flatK dR 2 d').size=l.length*2:=(by rw[size_flatK,hpz]);have hh:(sortWorldK dR 2 w g 0 n d' os).heap[g]? =some (.cells (Go.Sort.putCells id 0 (flatK dR 2 d') cur) 53 (0,0)):=by
   unfold sortWorldK putRowK;rw[heap_grow_old _ _ (by simpa using hg)];simp[putRow,mapBlock,Sort.ahead,G4,hbk,onCells]
  have htk2:(Go.Sort.putCells id 0 (flatK dR 2 d') cur).toList.take ((sortR l).length*2)=((sortR l).map λr=>[Value.int .i64 r.1,Value.int .i64 r.2]).flatten:=by
   rw[hsl,<-hfs2,rJ _ _ (by rw[hfs2,hsz];exact EA 2 hcap)];exact hfl2
  refine⟨[],rfl,rfl,rfl,rfl,?_,λb hb1 hb2=> ?_,⟨((sortR l).map λr=>[Value.int .i64 r.1,Value.int .i64 r.2]).flatten,⟨by rw[hflen,D9],.inr ⟨g,cap,_,by rw[D9,hsl],Dz _,hh,by rw[D9,hsl];exact hcap,hmax,by simp[Go.Sort.putCells,hsz],by rw[D9];exact htk2⟩⟩,oz _,λr hr=> ?_,λr hr p hp=> ?_⟩,.nil⟩
  ·unfold sortWorldK putRowK;simp
  ·unfold sortWorldK putRowK;rw[heap_grow_old _ _ (by simpa using hb1)];have:g≠b:=λe=>hb2 (by simp[VB,ax,e]);simp[putRow,mapBlock,Sort.ahead,G4,this]
  ·obtain⟨x,_,rfl⟩:=DF.1 hr;rfl
  ·obtain⟨x,_,rfl⟩:=DF.1 hr;simp[cR]at hp;rcases hp with rfl|rfl<;>rfl
end Go.Proofs.YtopcjbahjjhdmaaGreat
namespace Go.Proofs.YtopcjbahjjhdmaaGreat
open Go Go.RowKit
set_option linter.unusedVariables false
set_option linter.unusedSimpArgs false
def o7 (a b:List (Int×Int)):List (Int×Int):=joinG (sortR (a++b))
theorem AG {a b:List (Int×Int)}(ha:aA a)(hb:aA b)(h: ∀r∈a++b,-1048576<=r.1/\r.1<=1048576/\-1048576<=r.2/\r.2<=1048576):aA (o7 a b)/\∀v,v∈vals (o7 a b)↔v∈vals a∨v∈vals b:=by
 obtain⟨h1,h2⟩:=n9 (l:=a++b) λr hr=>(by have:=h r hr;omega);obtain⟨h3,_,h4⟩:=BC (sortR (a++b)) (λr hr=>by
  rcases DT.1 (h1.mem_iff.1 hr)with hr|hr;·exact ha.1 r hr
  ·exact hb.1 r hr) h2
 refine⟨h3,λv=> ?_⟩;show v∈vals (joinG _)↔_;rw[h4,aT,aT];constructor
 ·rintro⟨r,hr,h⟩;rcases DT.1 (h1.mem_iff.1 hr)with hr|hr;·exact .inl ⟨r,hr,h⟩
  ·exact .inr ⟨r,hr,h⟩
 ·rintro(⟨r,hr,h⟩|⟨r,hr,h⟩);·exact⟨r,h1.mem_iff.2 (Do _ hr),h⟩
  ·exact⟨r,h1.mem_iff.2 (Dq _ hr),h⟩
def elemM (d:aa)(vs:List Int)(i:Int):List (Int×Int):=bB (domAt d (vs.getD (i.toNat+2) 0)) (domAt d (vs.getD 1 0))
def elemIn (d:aa)(vs:List Int)(i:Int):Bool:=decide (0<=i)&&decide (i.toNat+2<vs.length)&& !decide (elemM d vs i=[])
def elemPl (d:aa)(vs:List Int):List Int:=(vals (domAt d (vs.getD 0 0))).filter (elemIn d vs)
def elemMay (d:aa)(vs:List Int)(l:List Int):List (Int×Int):=l.foldl (λm i=>o7 m (elemM d vs i)) []
def sk (d:aa)(vs l:List Int):aa:=
 if l.length=1 then((d.set (vs.getD 0 0).toNat (domOfP l).1).set (vs.getD 1 0).toNat (elemMay d vs l)).set (vs.getD ((l.getD 0 0).toNat+2) 0).toNat (elemMay d vs l)else(d.set (vs.getD 0 0).toNat (domOfP l).1).set (vs.getD 1 0).toNat (elemMay d vs l)
def rj (d:aa)(c:Con):Option aa:=if []∈d then none else if elemPl d c.vars=[]then none else some (sk d c.vars (elemPl d c.vars))
theorem nR {x:List (Int×Int)}(h:aA x)(hv: ∀v∈vals x,-1048576<=v/\v<=1048576): ∀r∈x,-1048576<=r.1/\r.1<=1048576/\-1048576<=r.2/\r.2<=1048576:=λr hr=>by
 have h0:=h.1 r hr;have h1:=hv r.1 (aT.2 ⟨r,hr,EN _,h0⟩);have h2:=hv r.2 (aT.2 ⟨r,hr,h0,EN _⟩);omega
theorem GoodD.dok {n:Nat}{d:aa}(gd:GoodD n d)(v:Int):aA (domAt d v):=by
 unfold domAt;by_cases hv:v.toNat<d.length
 ·rw[D0,D1 hv];exact(gd.few.fine _ (D8 hv)).ok
 ·rw[D0,EB (by omega)];exact⟨by simp,.nil⟩
theorem ee {n:Nat}{d:aa}(gd:GoodD n d)(vs:List Int)(i:Int):aA (elemM d vs i)/\∀v,v∈vals (elemM d vs i)↔v∈vals (domAt d (vs.getD (i.toNat+2) 0))/\v∈vals (domAt d (vs.getD 1 0)):=Ap (gd.dok _) (gd.dok _)
theorem px {n:Nat}{d:aa}(gd:GoodD n d)(vs:List Int)(l:List Int):aA (elemMay d vs l)/\∀v,v∈vals (elemMay d vs l)↔∃i∈l,v∈vals (elemM d vs i):=by
 refine snocInd (P:=λl=>aA (elemMay d vs l)/\∀v,v∈vals (elemMay d vs l)↔∃i∈l,v∈vals (elemM d vs i)) ⟨⟨by simp[elemMay],.nil⟩,λv=>by simp[elemMay,vals]⟩ (λl i ⟨h1,h2⟩=> ?_) l;have e:elemMay d vs (l++[i])=o7 (elemMay d vs l) (elemM d vs i):=(by simp[elemMay]);obtain⟨h3,h4⟩:=ee gd vs i;have hr: ∀j v,v∈vals (elemM d vs j)->-1048576<=v/\v<=1048576:=λj v hv=>(gd.few.at _).2.2 v (((ee gd vs j).2 v).1 hv).1;obtain⟨h5,h6⟩:=AG h1 h3 λr hr2=>by
  rcases DT.1 hr2 with hr2|hr2
  ·refine nR h1 (λv hv=> ?_) r hr2;obtain⟨j,_,hj⟩:=(h2 v).1 hv;exact hr j v hj
  ·exact nR h3 (hr i) r hr2
 rw[e];refine⟨h5,λv=> ?_⟩;rw[h6,h2];constructor
 ·rintro(⟨j,hj,h⟩|h);·exact⟨j,Do _ hj,h⟩
  ·exact⟨i,Dq _ (.head _),h⟩
 ·rintro⟨j,hj,h⟩;rcases DT.1 hj with hj|hj;·exact .inl ⟨j,hj,h⟩
  ·rw[DG.1 hj]at h;exact .inr h
theorem uW {n:Nat}{d:aa}(gd:GoodD n d)(vs:List Int)(l:List Int):(elemMay d vs l).length<=4096/\∀r∈elemMay d vs l,-1048576<=r.1/\r.1<=1048576/\-1048576<=r.2/\r.2<=1048576:=by
 obtain⟨h1,h2⟩:=px gd vs l;have hs: ∀v∈vals (elemMay d vs l),v∈vals (domAt d (vs.getD 1 0)):=λv hv=>by
  obtain⟨i,_,h⟩:=(h2 v).1 hv;exact(((ee gd vs i).2 v).1 h).2
 have h3:=bS (aF h1) hs;have h4:=(gd.few.at (vs.getD 1 0)).1;have h5:=bH h1;exact⟨by omega,nR h1 λv hv=>(gd.few.at _).2.2 v (hs v hv)⟩
theorem jD {vs:List Int}{f:Int->Int}{j:Nat}(h:j<vs.length):(vs.map f).getD j 0=f (vs.getD j 0):=by
 rw[D0,DE,D1 h,D0,D1 h];rfl
theorem jf {vs:List Int}(hn:vs.Nodup){i j:Nat}(hi:i<vs.length)(hj:j<vs.length)(h:vs.getD i 0=vs.getD j 0):i=j:=by
 rw[aL hi,aL hj]at h;rw[<-hn.idxOf_getElem i hi,h,hn.idxOf_getElem j hj]
theorem cU {vs:List Int}{i:Nat}(hi:i<vs.length):vs.getD i 0∈vs:=by
 rw[aL hi];exact D8 hi
theorem iA {n:Nat}{d:aa}(gd:GoodD n d)(vs:List Int)(i:Int):i∈elemPl d vs↔i∈vals (domAt d (vs.getD 0 0))/\0<=i/\i.toNat+2<vs.length/\∃y,y∈vals (elemM d vs i):=by
 have e: ¬elemM d vs i=[]↔∃y,y∈vals (elemM d vs i):=by
  rw[<-fg (ee gd vs i).1];constructor;·exact λh=>Eu _ h
  ·rintro⟨y,hy⟩ h;rw[h]at hy;cases hy
 unfold elemPl elemIn;rw[EH,<-e];simp[and_assoc]
def xW (vs:List Int)(f:Int->Int):Prop:=0<=f (vs.getD 0 0)/\(f (vs.getD 0 0)).toNat+2<vs.length/\f (vs.getD ((f (vs.getD 0 0)).toNat+2) 0)=f (vs.getD 1 0)
theorem zk {vs:List Int}(h3:3<=vs.length)(f:Int->Int):xV (vs.map f)=true↔xW vs f:=by
 unfold xV xW;rw[jD (j:=0) (by omega),jD (j:=1) (by omega)];simp only[DJ,DN,D9];generalize f (vs.getD 0 0)=i;constructor
 ·rintro⟨⟨⟨_,h1⟩,h2⟩,h4⟩;have e:(i+2).toNat=i.toNat+2:=(by omega);rw[e,jD (by omega)]at h4;exact⟨h1,by omega,h4⟩
 ·rintro⟨h1,h2,h4⟩;have e:(i+2).toNat=i.toNat+2:=(by omega);rw[e,jD (by omega)];exact⟨⟨⟨by omega,h1⟩,by omega⟩,h4⟩
theorem zh {n:Nat}{d:aa}(gd:GoodD n d){vs:List Int}(hn:vs.Nodup)(h3:3<=vs.length)(h0: ∀u∈vs,0<=u/\u.toNat<n){v:Int}(hv:v∈vs)(x:Int):
  (∃f:Int->Int,(∀u∈vs,f u∈vals (domAt d u))/\xW vs f/\f v=x)↔∃i y,i∈elemPl d vs/\y∈vals (elemM d vs i)/\x∈vals (domAt d v)/\(v=vs.getD 0 0->x=i)/\(v=vs.getD 1 0->x=y)/\(v=vs.getD (i.toNat+2) 0->x=y):=by
 constructor
 ·rintro⟨f,h1,⟨h4,h5,h6⟩,rfl⟩;have hy:f (vs.getD 1 0)∈vals (elemM d vs (f (vs.getD 0 0))):=by
   rw[(ee gd vs _).2];exact⟨by rw[<-h6];exact h1 _ (cU h5),h1 _ (cU (by omega))⟩
  refine⟨f (vs.getD 0 0),f (vs.getD 1 0),(iA gd vs _).2 ⟨h1 _ (cU (by omega)),h4,h5,_,hy⟩,hy,h1 v hv,λe=>by rw[e],λe=>by rw[e],λe=>by rw[<-h6,e]⟩
 ·rintro⟨i,y,hi,hy,hx,e0,e1,e2⟩;obtain⟨i1,i2,i3,_⟩:=(iA gd vs i).1 hi;obtain⟨y1,y2⟩:=((ee gd vs i).2 y).1 hy;have hg: ∀u,∃w,u∈vs->w∈vals (domAt d u):=λu=>by
   by_cases hu:u∈vs
   ·obtain⟨w,hw⟩:=gd.ne (h0 u hu).2;exact⟨w,λ_=>hw⟩
   ·exact⟨0,λh=>DU h hu⟩
  have d01:vs.getD 1 0≠vs.getD 0 0:=λe=>(by have:=jf hn (by omega) (by omega) e;omega);have d02:vs.getD (i.toNat+2) 0≠vs.getD 0 0:=λe=>(by have:=jf hn (by omega) (by omega) e;omega);have d12:vs.getD (i.toNat+2) 0≠vs.getD 1 0:=λe=>(by have:=jf hn (by omega) (by omega) e;omega);let f:Int->Int:=λu=>if u=vs.getD 0 0 then i else if u=vs.getD 1 0 then y else if u=vs.getD (i.toNat+2) 0 then y else if u=v then x else Classical.choose (hg u)
  have f0:f (vs.getD 0 0)=i:=D4 Y;have f1:f (vs.getD 1 0)=y:=(by simp only[f];rw[D2 d01,D4 trivial]);have f2:f (vs.getD (i.toNat+2) 0)=y:=(by simp only[f];rw[D2 d02,D2 d12,D4 trivial]);refine⟨f,λu hu=> ?_,⟨by rw[f0];exact i2,by rw[f0];exact i3,by rw[f0,f1,f2]⟩,?_⟩
  ·simp only[f];by_cases c0:u=vs.getD 0 0;·rw[D4 c0,c0];exact i1
   rw[D2 c0];by_cases c1:u=vs.getD 1 0;·rw[D4 c1,c1];exact y2
   rw[D2 c1];by_cases c2:u=vs.getD (i.toNat+2) 0;·rw[D4 c2,c2];exact y1
   rw[D2 c2];by_cases c3:u=v;·rw[D4 c3,c3];exact hx
   ·rw[D2 c3];exact Classical.choose_spec (hg u) hu
  ·simp only[f];by_cases c0:v=vs.getD 0 0;·rw[D4 c0];exact(e0 c0).symm
   rw[D2 c0];by_cases c1:v=vs.getD 1 0;·rw[D4 c1];exact(e1 c1).symm
   rw[D2 c1];by_cases c2:v=vs.getD (i.toNat+2) 0;·rw[D4 c2];exact(e2 c2).symm
   rw[D2 c2,D4 trivial]
theorem zi {n:Nat}{d:aa}{c:Con}(gd:GoodD n d)(hc:ConB c)(h:conR d c=0)(hk:c.kind=3):bL c d=rj d c:=by
 obtain⟨_,hv,hr,hin⟩:=cQ hc h;have hu:usesR c=aW c.vars:=(by unfold usesR;rw[D2 (by omega)]);have hrr:c.vars.Nodup/\3<=c.vars.length:=by
  unfold rightR at hr;rw[D2 (by omega),D2 (by omega),D2 (by omega),D4 hk]at hr;simp only[manyR,DJ,DN]at hr;exact⟨hr.1.2.2,hr.2⟩
 obtain⟨hnod,h3⟩:=hrr;have hnd:(usesR c).Nodup:=dA (b9 _);have hmem: ∀u,u∈usesR c↔u∈c.vars:=λu=>(by rw[hu];exact bK u _);have hP: ∀f:Int->Int,holdsR c (eC d.length (usesR c) ((usesR c).map f) (usesR c).length)=true↔xW c.vars f:=λf=>by
  have hpk:pickedR c.vars (eC d.length (usesR c) ((usesR c).map f) (usesR c).length)=c.vars.map f:=EJ λv hv=>lO f hin ((hmem v).2 hv);unfold holdsR;rw[D2 (by omega),D2 (by omega),D2 (by omega),D4 hk,hpk];exact zk h3 f
 have h0: ∀u∈c.vars,0<=u/\u.toNat<n:=λu hu=>(by have:=hv.2 u hu;rwa[gd.len]at this);have hS: ∀v∈c.vars,∀x,pJ d (usesR c) (λt=>holdsR c (eC d.length (usesR c) t (usesR c).length)) v x↔∃i y,i∈elemPl d c.vars/\y∈vals (elemM d c.vars i)/\x∈vals (domAt d v)/\(v=c.vars.getD 0 0->x=i)/\(v=c.vars.getD 1 0->x=y)/\(v=c.vars.getD (i.toNat+2) 0->x=y):=λv hvm x=>by
  rw[<-zh gd hnod h3 h0 hvm x];constructor
  ·rintro⟨f,h1,h2,h4⟩;exact⟨f,λu hu=>h1 u ((hmem u).2 hu),(hP f).1 h2,h4⟩
  ·rintro⟨f,h1,h2,h4⟩;exact⟨f,λu hu=>h1 u ((hmem u).1 hu),(hP f).2 h2,h4⟩
 unfold bL rj;rw[D2 (by omega),D2 (by omega),D2 (by omega),D2 (by omega),D2 gd.some'];unfold lC;rw[D2 gd.some'];generalize (λt=>holdsR c (eC d.length (usesR c) t (usesR c).length))=P at hS⊢;generalize usesR c=us at*;have hlin: ∀u,u∈us->0<=u/\u.toNat<d.length:=hin;clear hP h hu hr hc hk;generalize c.vars=vs at*;have dne: ∀j k,j<vs.length->k<vs.length->j≠k->(vs.getD j 0).toNat≠(vs.getD k 0).toNat:=λj k hj hk e2 e=>e2 (jf hnod hj hk (by have:=(h0 _ (cU hj)).1;have:=(h0 _ (cU hk)).1;omega));by_cases hl:elemPl d vs=[]
 ·rw[D4 hl];refine D4 ?_;have hv0:vs.getD 0 0∈vs:=cU (by omega);have hz:=h0 _ hv0;obtain⟨y,hy,hok,hx⟩:=(kZ (P:=P) hnd hlin (vs.getD 0 0).toNat).2 (by rw[FL hz.1];exact(hmem _).2 hv0);have:y=[]:=(fg hok).1 (F6.2 λx hxm=>by
   have:=(hx x).1 hxm;rw[FL hz.1,hS _ hv0,hl]at this;obtain⟨i,_,h,_⟩:=this;cases h)
  rw[this]at hy;exact D7 hy
 ·rw[D2 hl];obtain⟨m1,m2⟩:=px gd vs (elemPl d vs);have hlu:Up (elemPl d vs):=(aF (gd.dok _)).filter _;have hlv: ∀v∈elemPl d vs,-1048576<=v/\v<=1048576:=λv hv=>(gd.few.at _).2.2 v (EH.1 hv).1;have hll:(elemPl d vs).length<=4096:=Du (EX _ _) (gd.few.at _).1;have hpl:=λi=>iA gd vs i;have hof:=rk hlu hlv hll;have hln:=dA hlu;have hmne: ∀i∈elemPl d vs,∃y,y∈vals (elemM d vs i):=λi hi=>((hpl i).1 hi).2.2.2;have hmay:elemMay d vs (elemPl d vs)≠[]:=λe=>by
   obtain⟨i,hi⟩:=Eu _ hl;obtain⟨y,hy⟩:=hmne i hi;have:=(m2 y).2 ⟨i,hi,hy⟩;rw[e]at this;cases this
  have hpk:cX (elemPl d vs)≠[]:=λe=>hl (by rw[<-bJ hlu,e];rfl);have hxx: ∀v x i y,y∈vals (elemM d vs i)->(v=vs.getD 1 0->x=y)->v=vs.getD 1 0->x∈vals (elemM d vs i):=λv x i y hy e hv=>(by rw[e hv];exact hy);unfold sk;rw[hof];generalize elemMay d vs (elemPl d vs)=may at*;generalize hpe:elemPl d vs=l at*;have hsz: ∀o:aa,(if l.length=1 then((d.set (vs.getD 0 0).toNat (cX l)).set (vs.getD 1 0).toNat may).set (vs.getD ((l.getD 0 0).toNat+2) 0).toNat may else(d.set (vs.getD 0 0).toNat (cX l)).set (vs.getD 1 0).toNat may)=o->o.length=d.length:=λo e=>(by rw[<-e];split<;>simp);generalize hO:(if l.length=1 then((d.set (vs.getD 0 0).toNat (cX l)).set (vs.getD 1 0).toNat may).set (vs.getD ((l.getD 0 0).toNat+2) 0).toNat may else(d.set (vs.getD 0 0).toNat (cX l)).set (vs.getD 1 0).toNat may)=out;have hlen:=hsz out hO;have hd0:=λj (hj:j<vs.length)=>(hlin _ ((hmem _).2 (cU hj))).2;have hi0:l.length=1->l.getD 0 0∈l:=λe=>(by rw[aL (by omega)];exact D8 _);have hb0:l.length=1->(l.getD 0 0).toNat+2<vs.length:=λe=>((hpl _).1 (hi0 e)).2.2.1;have hat: ∀j,j<vs.length->domAt out (vs.getD j 0)=if j=0 then cX l else if j=1 then may else if l.length=1/\j=(l.getD 0 0).toNat+2 then may else domAt d (vs.getD j 0):=λj hj=>by
   rw[<-hO];by_cases hl1:l.length=1
   ·rw[D4 hl1,fL (by simp;exact hd0 _ (hb0 hl1)),fL (by simp;exact hd0 1 (by omega)),fL (hd0 0 (by omega))];by_cases c2:j=(l.getD 0 0).toNat+2;·rw[D4 (by rw[c2]),D2 (by omega),D2 (by omega),D4 ⟨hl1,c2⟩]
    ·rw[D2 (dne _ _ (hb0 hl1) hj (Ne.symm c2)),D2 (c:=l.length=1/\_) (λh=>c2 h.2)];by_cases c1:j=1;·rw[D4 (by rw[c1]),D2 (by omega),D4 c1]
     ·rw[D2 (dne _ _ (by omega) hj (Ne.symm c1)),D2 c1];by_cases c0:j=0;·rw[D4 (by rw[c0]),D4 c0]
      ·rw[D2 (dne _ _ (by omega) hj (Ne.symm c0)),D2 c0]
   ·rw[D2 hl1,fL (by simp;exact hd0 1 (by omega)),fL (hd0 0 (by omega)),D2 (c:=l.length=1/\_) (λh=>hl1 h.1)];by_cases c1:j=1;·rw[D4 (by rw[c1]),D2 (by omega),D4 c1]
    ·rw[D2 (dne _ _ (by omega) hj (Ne.symm c1)),D2 c1];by_cases c0:j=0;·rw[D4 (by rw[c0]),D4 c0]
     ·rw[D2 (dne _ _ (by omega) hj (Ne.symm c0)),D2 c0]
  have hms: ∀x∈out,x=cX l∨x=may∨x∈d:=λx hx=>by
   rw[<-hO]at hx;split at hx
   ·rcases DV hx with hx|hx
    ·rcases DV hx with hx|hx
     ·rcases DV hx with hx|hx;·exact .inr (.inr hx)
      ·exact .inl hx
     ·exact .inr (.inl hx)
    ·exact .inr (.inl hx)
   ·rcases DV hx with hx|hx
    ·rcases DV hx with hx|hx;·exact .inr (.inr hx)
     ·exact .inl hx
    ·exact .inr (.inl hx)
  rw[nO (out:=out) hnd hlin hlen (λx hx=> ?_) (λv hvm x=> ?_) (λi hi=> ?_)]
  ·unfold mP;rw[D2];intro hm;rcases hms _ hm with e|e|e;·exact hpk e.symm
   ·exact hmay e.symm
   ·exact gd.some' e
  ·rcases hms x hx with rfl|rfl|hx;·exact gp hlu
   ·exact m1
   ·exact(gd.few.fine x hx).ok
  ·have hvc:=(hmem v).1 hvm;rw[hS v hvc];have hj:vs.idxOf v<vs.length:=FB.2 hvc;have hve:v=vs.getD (vs.idxOf v) 0:=(by rw[aL hj,Fj]);generalize vs.idxOf v=j at hj hve;subst hve;have hvi: ∀k,k<vs.length->(vs.getD j 0=vs.getD k 0↔j=k):=λk hk=>⟨jf hnod hj hk,λe=>by rw[e]⟩;rw[hat j hj];by_cases c0:j=0
   ·subst c0;rw[D4 Y,bJ hlu];constructor
    ·intro hx;obtain⟨y,hy⟩:=hmne x hx;obtain⟨a1,a2,a3,_⟩:=(hpl x).1 hx;exact⟨x,y,hx,hy,a1,λ_=>rfl,λe=>by rw[hvi 1 (by omega)]at e;omega,λe=>by rw[hvi _ a3]at e;omega⟩
    ·rintro⟨i,y,hi,_,_,e,_⟩;rw[e Y];exact hi
   rw[D2 c0];by_cases c1:j=1
   ·subst c1;rw[D4 Y,m2];constructor
    ·rintro⟨i,hi,hx⟩;obtain⟨a1,a2,a3,_⟩:=(hpl i).1 hi;exact⟨i,x,hi,hx,(((ee gd vs i).2 x).1 hx).2,λe=>DU ((hvi 0 (by omega)).1 e) (by omega),λ_=>rfl,λe=>DU ((hvi _ a3).1 e) (by omega)⟩
    ·rintro⟨i,y,hi,hy,_,_,e,_⟩;exact⟨i,hi,by rw[e Y];exact hy⟩
   rw[D2 c1];by_cases hl1:l.length=1
   ·have hone: ∀i∈l,i=l.getD 0 0:=λi hi=>by
     obtain⟨z,rfl⟩:=Fa.1 hl1;rw[DG.1 hi];rfl
    by_cases c2:j=(l.getD 0 0).toNat+2
    ·rw[D4 ⟨hl1,c2⟩,m2];constructor
     ·rintro⟨i,hi,hx⟩;obtain⟨a1,a2,a3,_⟩:=(hpl i).1 hi;have:=hone i hi;exact⟨i,x,hi,hx,by have:=(((ee gd vs i).2 x).1 hx).1;rw[c2,<-hone i hi];exact this,λe=>by rw[hvi 0 (by omega)]at e;omega,λ_=>rfl,λ_=>rfl⟩
     ·rintro⟨i,y,hi,hy,_,_,_,e⟩;exact⟨i,hi,by rw[e (by rw[c2,hone i hi])];exact hy⟩
    ·rw[D2 λh=>c2 h.2];constructor
     ·intro hx;obtain⟨y,hy⟩:=hmne _ (hi0 hl1);exact⟨_,y,hi0 hl1,hy,hx,λe=>by rw[hvi 0 (by omega)]at e;omega,λe=>by rw[hvi 1 (by omega)]at e;omega,λe=>by rw[hvi _ (hb0 hl1)]at e;omega⟩
     ·rintro⟨i,y,_,_,hx,_⟩;exact hx
   ·rw[D2 λh=>hl1 h.1];constructor
    ·intro hx;have: ∃i∈l,i.toNat+2≠j:=by
      match l,hl,hl1,hln,hpl with
      | [],hl,_,_,_=>exact DU Y hl
      | [z],_,h1,_,_=>exact DU Y h1
      |z::t::_,_,_,hln,hpl=>
       by_cases e:z.toNat+2=j
       ·refine⟨t,.tail _ (.head _),λe2=> ?_⟩;have a1:=((hpl z).1 (.head _)).2.1;have a2:=((hpl t).1 (.tail _ (.head _))).2.1;have:z=t:=(by omega);rw[this]at hln;exact(ED.1 hln).1 (.head _)
       ·exact⟨z,.head _,e⟩
     obtain⟨i,hi,hne⟩:=this;obtain⟨y,hy⟩:=hmne i hi;exact⟨i,y,hi,hy,hx,λe=>by rw[hvi 0 (by omega)]at e;omega,λe=>by rw[hvi 1 (by omega)]at e;omega,λe=>by rw[hvi _ ((hpl i).1 hi).2.2.1]at e;omega⟩
    ·rintro⟨i,y,_,_,hx,_⟩;exact hx
  ·have hni: ∀k,k<vs.length->(vs.getD k 0).toNat≠i:=λk hk e=>hi (by
    rw[<-e,FL (h0 _ (cU hk)).1];exact(hmem _).2 (cU hk))
   rw[<-hO];by_cases hl1:l.length=1;·rw[D4 hl1,Ds (hni _ (hb0 hl1)),Ds (hni 1 (by omega)),Ds (hni 0 (by omega))]
   ·rw[D2 hl1,Ds (hni 1 (by omega)),Ds (hni 0 (by omega))]
set_option maxRecDepth 8000
theorem yZ {l:List (Int×Int)}(h: ∀r∈l,-1048576<=r.2/\r.2<=1048576): ∀r∈joinG l,-1048576<=r.2/\r.2<=1048576:=by
 revert h;refine snocInd (P:=λl=>(∀r∈l,-1048576<=r.2/\r.2<=1048576)->∀r∈joinG l,-1048576<=r.2/\r.2<=1048576) (λ_ r hr=>by simp[joinG]at hr) (λl x ih h=> ?_) l;have ih:=ih λr hr=>h r (Do _ hr);have hx:=h x (Dq _ (.head _));rw[iu];rcases F9 (joinG l)with e|⟨o,r,e⟩
 ·rw[e,jz];intro r hr;rw[DG.1 hr];exact hx
 ·rw[e,F0]at ih⊢;rw[ir];have hr:=ih r (Dq _ (.head _));split
  ·intro s hs;rcases DT.1 hs with hs|hs;·exact ih s (Do _ hs)
   ·rw[DG.1 hs];simp only;omega
  ·intro s hs;rcases DT.1 hs with hs|hs;·exact ih s hs
   ·rw[DG.1 hs];exact hx
set_option maxHeartbeats 2000000 in
theorem wW (a b:List (Int×Int))(hl:(a.length+b.length+1)*16<=140737488355328)(hb: ∀r∈a++b,-1048576<=r.1/\r.1<=1048576/\-1048576<=r.2/\r.2<=1048576):
  Spec Tryz.prog 190 false [dm a,dm b] [.own 53 2 ((o7 a b).map cR)]:=by
 refine Spec.body Tryz.func190 Y Y Y λw0 Z0=> ?_;have hso:=n9 (l:=a++b) λr hr=>(by have:=hb r hr;omega);have hspec:=tc (a++b) (by simp;omega) λr hr=>(by have:=hb r hr;omega);have hsb: ∀r∈sortR (a++b),-1048576<=r.1/\r.1<=1048576/\-1048576<=r.2/\r.2<=1048576:=λr hr=>hb r (hso.1.mem_iff.1 hr);have hsl:(sortR (a++b)).length=a.length+b.length:=(by rw[hso.1.length_eq];simp);show T _ _ _ _;unfold o7;generalize sortR (a++b)=l at*;refine .B ?_;refine .D (bR a (by omega)) ?_;refine J.am (enc:=cR) (l:=a) (l2:=b) (B:=16) Y Y Y Y Y Y Y Y Y Y Y Y Y Y Y Y Y (λ_=>rfl) Y (by omega) ?_;refine .B ?_;refine J.cm Y Y Y Y Y Y Y Y Y hspec Y Y Y ?_;refine .B ?_;refine T.sub (Rel.own0 (s:=6) 53 2 Y) ?_;refine T.sub (Rel.flat (o:=1) Y sd) ?_;refine T.K (T.list l (λn pre post=>⟨[(6,.ref 0),(16,.ref 1),(17,.val true (.int .i64 (l.map cR).length)),(18,.val true (.int .i64 n))],[(0,some (.sl 53 2 true ((joinG pre).map cR))),(1,some (.sl 53 2 true (l.map cR)))],2⟩) (λ_ _ h=>h) ?_ ?_)
 ·rintro n pre ⟨x1,x2⟩ post h hn ih;have hlt:=cg h hn;have hpl:=y0 pre;have hpn:pre.length<=l.length:=(by rw[h];simp);have hx:=hsb (x1,x2) (by rw[h];simp);simp only at hx;have hpb: ∀r∈joinG pre,-1048576<=r.2/\r.2<=1048576:=yZ λr hr=>(by have:=hsb r (by rw[h];simp[hr]);omega);rw[iu]at ih;refine .B ?_;refine T.ct2 Y (ce h hn) ?_;refine .B ?_;refine J.io Y Y Y Y Y Y Y Y Y (by omega) (by simp;omega) Y ?_;refine .B ?_;refine J.lo Y Y Y Y Y Y (r:=cR (x1,x2)) (aS h hn) Y ?_;refine .B ?_;refine .L ?_;refine .X ?_;have hw1:=ak hlt (by omega);have hby:((joinG pre).length+1)*16<=140737488355328:=(by omega);generalize joinG pre=out at*;rcases F9 out with rfl|⟨o,⟨a,b⟩,rfl⟩
  ·rw[jz]at ih;refine J.g Y Y Y (λh2=> ?_) (λh2=> ?_);·simp at h2
   refine .B ?_;refine T.cf Y ?_;refine .B ?_;refine .Z ?_;refine J.aR Y Y Y Y Y Y Y Y Y Y Y Y Y Y Y Y Y Y Y (by simp) ?_;refine .B ?_;rw[ak hlt (by omega)];exact T.K ih
  ·rw[F0]at*;rw[ir]at ih;have hab:=hpb (a,b) (by simp);simp only at hab;have hw2:IntKind.i64.wrap (b+1)=b+1:=af (by omega) (by omega);refine J.g Y Y Y (λh2=> ?_) (λh2=> ?_)
   rotate_left
   ·simp at h2
   have hlw:IntKind.i64.wrap (((((o++[(a,b)]).map cR).length:Nat):Int)-1)=(o.length:Int):=by
    rw[D9,DX,af]<;>simp at* <;>omega
   have hro:((o++[(a,b)]).map cR)[((o.length:Nat):Int).toNat]? =some (cR (a,b)):=(by simp);refine .B ?_;rw[hlw];refine J.io Y Y Y Y Y Y Y Y Y (Fh _) (by simp) rfl ?_;refine .B ?_;refine J.lo Y Y Y Y Y Y (r:=cR (a,b)) hro Y ?_;refine .B ?_;rw[hw2];refine T.cd Y (λh3=> ?_) (λh3=> ?_)
   ·rw[D4 h3]at ih;refine .B ?_;refine T.rdw 12 Y (by kernel_rfl) Y ?_;refine .B ?_;rw[hlw];refine J.io Y Y Y Y Y Y Y Y Y (Fh _) (by simp) rfl ?_;refine .B ?_;refine J.lo Y Y Y Y Y Y (r:=cR (a,b)) hro Y ?_;refine .B ?_;refine⟨rfl,?_⟩;refine J.io Y Y Y Y Y Y Y Y Y (Fh _) (by simp) rfl ?_;refine .B ?_;refine J.w Y Y Y Y Y Y Y Y Y (tH o a b (max b x2)) ?_;refine .B ?_;rw[hw1];exact T.K ih
   ·rw[D2 h3]at ih;refine .B ?_;refine .Z ?_;refine J.aR Y Y Y Y Y Y Y Y Y Y Y Y Y Y Y Y Y Y Y (l:=o++[(a,b)]) (a:=x1) (b:=x2) hby ?_;refine .B ?_;rw[hw1];exact T.K ih
 ·refine .B ?_;refine T.cf2 Y bA ?_;refine .B ?_;exact⟨_,.o Y Y Y (λ_=> .inl Y) (by simp) .nil⟩
theorem nb {p:Int->Bool}{f:FuncId}(caps:List PV)(l:List Int)(hp: ∀v∈l,Spec Tryz.prog f false (.int .i64 v::caps) [.val (.bool (p v))])(hl:l.length*8<=140737488355328):Spec Tryz.prog 169 false [ao l,.fn (.func f) [] caps] [.val (.int .i64 (indexP p l))]:=by
 refine Spec.body Tryz.func169 Y Y Y λw0 Z0=> ?_;refine .B ?_;refine T.K (T.listI l (λpre=> ∀v∈pre,p v=false) (λn pre post=>⟨[(0,.val false (ao l)),(1,.val false (.fn (.func f) [] caps)),(7,.val true (.int .i64 (l.map cI).length)),(8,.val true (.int .i64 n))],[],0⟩) (λ_ _ h=>h) (λv hv=>by cases hv) ?_ ?_)
 ·rintro n pre v post h hn hi ih;have hlt:=cg h hn;have hsp:=hp v (by rw[h];simp);refine .B ?_;refine T.ct2 Y (ce h hn) ?_;refine .B ?_;refine .F (r:=cI v) (aS h hn) ?_;refine .D hsp ?_;refine T.cond Y (λh2=> ?_) (λh2=> ?_)
  ·have h2:p v=true:=h2;refine .B ?_;have e:indexP p l=(n:Int):=by
    unfold indexP;rw[h,GD,EE.2 (by simpa using hi),FR,D4 h2];simp[hn]
   rw[e];exact r1
  ·have h2:p v=false:=h2;refine .B ?_;rw[ak hlt (by omega)];exact T.K (ih (by
    intro x hx;rcases DT.1 hx with hx|hx;·exact hi x hx
    ·rw[DG.1 hx];exact h2))
 ·intro hi;have e:indexP p l= -1:=by
   unfold indexP;rw[EE.2 (by simpa using hi)]
  rw[e];refine .B ?_;refine T.cf2 Y bA ?_;refine .B ?_;exact r1
theorem r9 (p:Int->Bool)(l:List Int):(indexP p l= -1/\∀v∈l,p v=false)∨∃i:Nat,i<l.length/\indexP p l=(i:Int)/\p (l.getD i 0)=true/\∀v∈l.take i,p v=false:=by
 unfold indexP;cases h:l.findIdx? p with
 |none=>exact .inl ⟨rfl,by simpa using EE.1 h⟩
 |some i=>
  obtain⟨h1,h2,h3⟩:=Ec.1 h;refine .inr ⟨i,h1,rfl,by rw[aL h1];exact h2,λv hv=> ?_⟩;obtain⟨j,hj⟩:=DH hv;have hjl:=(D5.1 hj).1;have hji:j<i:=(by simp at hjl;omega);have:=h3 j hji;rw[Ez hji,D1 (by omega)]at hj;rw[<-D3 hj];simpa using this
structure DelInv (p:Int->Bool)(l:List Int)(j:Nat)(L:List Int):Prop where
 len:L.length=l.length
 le:j<=l.length
 lt:((l.take j).filter λx=> !p x).length<j
 tk:L.take ((l.take j).filter λx=> !p x).length=(l.take j).filter λx=> !p x
 dr:L.drop j=l.drop j
theorem DelInv.at {p:Int->Bool}{l L:List Int}{j:Nat}(h:DelInv p l j L)(hj:j<l.length):L.getD j 0=l.getD j 0:=by
 have h1:=h.dr;have hL:=h.len;rw[DQ (by omega),DQ hj]at h1;rw[aL (by omega),aL hj];exact(List.cons.inj h1).1
theorem DelInv.step {p:Int->Bool}{l L:List Int}{j:Nat}(h:DelInv p l j L)(hj:j<l.length):
  (p (l.getD j 0)=true->DelInv p l (j+1) L/\((l.take (j+1)).filter λx=> !p x).length=((l.take j).filter λx=> !p x).length)/\
  (p (l.getD j 0)=false->DelInv p l (j+1) (L.set ((l.take j).filter λx=> !p x).length (l.getD j 0))/\((l.take (j+1)).filter λx=> !p x).length=((l.take j).filter λx=> !p x).length+1):=by
 obtain⟨h1,h2,h3,h4,h5⟩:=h;have ht:l.take (j+1)=l.take j++[l.getD j 0]:=(by rw[DB hj,aL hj]);have hd:L.drop (j+1)=l.drop (j+1):=by
  have:=congrArg (List.drop 1) h5;rwa[HF,HF]at this
 refine⟨λhp=> ?_,λhp=> ?_⟩
 ·have e:(l.take (j+1)).filter (λx=> !p x)=(l.take j).filter λx=> !p x:=(by rw[D0]at hp;rw[ht,Fi];simp[hp]);exact⟨⟨h1,hj,by rw[e];omega,by rw[e];exact h4,hd⟩,by rw[e]⟩
 ·have e:(l.take (j+1)).filter (λx=> !p x)=((l.take j).filter λx=> !p x)++[l.getD j 0]:=(by rw[D0]at hp;rw[ht,Fi];simp[hp]);refine⟨⟨by simpa using h1,hj,by rw[e];simp;omega,?_,?_⟩,by rw[e];simp⟩;·rw[e,DX,EW,DB (by simp;omega),List.getElem_set_self,List.take_set_of_le (DL _),h4]
  ·rw[Gk (by omega)];exact hd
theorem su {p:Int->Bool}{f:FuncId}(caps:List PV)(l:List Int)(hp: ∀v∈l,Spec Tryz.prog f false (.int .i64 v::caps) [.val (.bool (p v))])(hl:l.length*8<=140737488355328):
  SpecP Tryz.prog 187 [] [] 3 1 (l.map cI) [.fn (.func f) [] caps] ((l.filter λx=> !p x).map cI):=by
 refine SpecP.body Tryz.func187 Y Y Y (λr hr q hq=>by obtain⟨x,_,rfl⟩:=DF.1 hr;simp[cI]at hq;rw[hq];rfl) λw0 v0 Z1=> ?_;have hix:=nb caps l hp hl;have hcs:=r9 p l;generalize indexP p l=i0 at*;refine .B ?_;refine .D hix ?_;rcases hcs with ⟨rfl,hall⟩|⟨i,hi,rfl,hpi,hbe⟩
 ·refine T.ct Y ?_;refine .B ?_;rw[Gn.2 (λx hx=>by rw[hall x hx];rfl)];exact⟨4,0,rfl,rfl,rfl⟩
 ·refine T.cf2 Y (DC (by omega)) ?_;have hf0:(l.take i).filter (λx=> !p x)=l.take i:=Gn.2 (λx hx=>by rw[hbe x hx];rfl);have hf1:(l.take (i+1)).filter (λx=> !p x)=l.take i:=by
   rw[D0]at hpi;rw[DB hi,Fi,hf0,<-aL hi];simp[hpi]
  have hinv:DelInv p l (i+1) l:=⟨rfl,hi,by rw[hf1];simp;omega,by rw[hf1];simp[ES (GV hi)],rfl⟩;refine .B ?_;rw[ak hi hl];refine T.K (T.ind (λs:Nat×Nat×List Int=>⟨[(0,.ref 0),(1,.val false (.fn (.func f) [] caps)),(5,.val true (.int .i64 s.2.1)),(6,.val true (.int .i64 s.1))],[(0,some (.sl 3 1 true (s.2.2.map cI)))],1⟩)
   (λs=>DelInv p l s.1 s.2.2/\s.2.1=((l.take s.1).filter λx=> !p x).length) (λs=>l.length-s.1) (i+1,i,l) ⟨hinv,by simp only;rw[hf1];simp;omega⟩ (λ_ _ h=>h) ?_)
  rintro⟨j,k,L⟩ ⟨hinv,hk⟩ ih;simp only at hinv hk;dsimp only;have hle:=hinv.le;have hlen:=hinv.len;have hlt:=hinv.lt;rw[<-hk]at hlt;refine .B ?_;refine T.cd Y (λh6=> ?_) (λh6=> ?_)
  ·have h6:j<l.length:=(by simp at h6;omega);have hrow:(L.map cI)[((j:Nat):Int).toNat]? =some (cI (l.getD j 0)):=by
    rw[<-hinv.at h6,aL (by omega)];exact aO (by omega)
   obtain⟨hs1,hs2⟩:=hinv.step h6;have hsp:=hp (l.getD j 0) (by rw[aL h6];exact D8 _);have hw1:IntKind.i64.wrap ((j:Int)+1)=((j+1:Nat):Int):=ak h6 hl;have hw2:IntKind.i64.wrap ((k:Int)+1)=((k+1:Nat):Int):=ak (l:=l.length) (by omega) hl;have ih1:=λk2 L2 h1 h2=>ih (j+1,k2,L2) ⟨h1,h2⟩ (by show _-_<_-_;omega);rw[<-hk]at hs1 hs2;refine .B ?_;refine J.io Y Y Y Y Y Y Y Y Y (by omega) (by simp;omega) Y ?_;refine .B ?_;refine J.lo Y Y Y Y Y Y (r:=cI (l.getD j 0)) hrow Y ?_;refine .B ?_;refine .D hsp ?_;cases hpv:p (l.getD j 0)with
   |true=>
    obtain⟨a1,a2⟩:=hs1 hpv;refine T.cf Y ?_;refine .B ?_;rw[hw1];exact T.K (ih1 k L a1 a2.symm)
   |false=>
    obtain⟨a1,a2⟩:=hs2 hpv;refine T.ct Y ?_;refine .B ?_;refine J.io Y Y Y Y Y Y Y Y Y (by omega) (by simp;omega) Y ?_;refine .B ?_;refine J.w1 Y Y Y Y Y Y Y Y Y Y Y (enc:=cI) (z:=l.getD j 0) (λ_=>rfl) (by simp;omega) ?_;refine .B ?_;rw[hw1,hw2];exact T.K (ih1 (k+1) _ a1 a2.symm)
  ·have h6:j=l.length:=(by simp at h6;omega);have htk:=hinv.tk;subst h6;rw[<-hk]at htk;rw[E8]at htk;refine .B ?_;refine J.clr (l:=L) k Y Y Y Y Y Y Y (by omega) Y Y Y (λw=>by kernel_rfl) Y Y Y Y (λ_=>rfl) λu=> ?_;refine .B ?_;refine J.cut (l:=L.take k++List.replicate (L.length-k) 0) k Y Y Y Y Y Y Y (by simp;omega) Y Y ?_;refine .B ?_;rw[show(L.take k++List.replicate (L.length-k) (0:Int)).take k=l.filter λx=> !p x by rw[FW (by simp;omega),G9,Nat.min_self,htk]];exact⟨4,1,rfl,rfl,rfl⟩
def clP (d:aa)(c:Con)(us t:List Int):Bool:=holdsR c (eC d.length us t us.length)
theorem xJ {x k:Int}(hk:k=1∨k= -1):litH (x,k)=true↔x=dD k:=by
 rcases hk with rfl|rfl;·rw[CW];simp[litH]
 ·rw[CV];simp[litH]
theorem BS {d:aa}{c:Con}(h:ClOk d c)(hk:c.kind=5)(f:Int->Int):clP d c (aW c.vars) ((aW c.vars).map f)=true↔∃p∈c.vars.zip c.coefs,f p.1=dD p.2:=by
 have hin: ∀u∈aW c.vars,0<=u/\u.toNat<d.length:=λu hu=>h.vin u ((bK u _).1 hu);have hat: ∀v∈c.vars,atR (eC d.length (aW c.vars) ((aW c.vars).map f) (aW c.vars).length) v=f v:=λv hv=>lO f hin ((bK v _).2 hv);have hp:pickedR c.vars (eC d.length (aW c.vars) ((aW c.vars).map f) (aW c.vars).length)=c.vars.map f:=EJ λv hv=>hat v hv;unfold clP holdsR;rw[D2 (by omega),D2 (by omega),D2 (by omega),D2 (by omega),D2 (by omega),D4 hk,hp,EZ];constructor
 ·rintro⟨q,hq,hl⟩;obtain⟨i,hi⟩:=DH hq;rw[Ev]at hi;obtain⟨h1,h2⟩:=hi;rw[DE]at h1;obtain⟨v,hv,e⟩:=DY.1 h1;refine⟨(v,q.2),D7 (i:=i) (Ev.2 ⟨hv,h2⟩),?_⟩;rw[show q=(q.1,q.2)from Y,xJ (h.unit _ (D7 h2))]at hl;rw[<-hl,<-e]
 ·rintro⟨p,hp,e⟩;obtain⟨i,hi⟩:=DH hp;rw[Ev]at hi;refine⟨(f p.1,p.2),D7 (i:=i) (Ev.2 ⟨by rw[DE,hi.1];rfl,hi.2⟩),?_⟩;rw[xJ (h.unit _ (D7 hi.2))];exact e
theorem A2 {c:Con}(hn:c.vars.Nodup){p q:Int×Int}(hp:p∈c.vars.zip c.coefs)(hq:q∈c.vars.zip c.coefs)(h:p.1=q.1):p=q:=by
 obtain⟨i,hi⟩:=DH hp;obtain⟨j,hj⟩:=DH hq;have e:i=j:=by
  rw[Ev]at hi hj;obtain⟨h1,h2⟩:=D5.1 hi.1;obtain⟨h3,h4⟩:=D5.1 hj.1;exact(Fc hn).1 (h2.trans (h.trans h4.symm))
 subst e;exact D3 (hi.symm.trans hj)
theorem u5 {d:aa}{c:Con}(h:ClOk d c)(hk:c.kind=5)(hf: ∀x∈d,Fine x):lC d (aW c.vars) (clP d c (aW c.vars))=jL d c:=by
 have hus: ∀u,u∈aW c.vars↔u∈c.vars:=λu=>bK u _;have hnd:(aW c.vars).Nodup:=dA (b9 _);have hin: ∀u∈aW c.vars,0<=u/\u.toNat<d.length:=λu hu=>h.vin u ((hus u).1 hu);have hP:=BS h hk;have hpv: ∀p∈c.vars.zip c.coefs,p.1∈c.vars:=λp hp=>(Dv hp).1;have hlb: ∀p,litB d p=true↔dD p.2∈vals (domAt d p.1):=λp=>dc;unfold lC;rw[w5 h.len];by_cases hm: []∈d;·rw[D4 hm,D4 hm]
 rw[D2 hm,D2 hm];have hne: ∀v∈c.vars,∃x,x∈vals (domAt d v):=by
  intro v hv;have hd:=hf _ (ah (h.vin v hv).2);have:domAt d v≠[]:=λe=>hm (e▸ah (h.vin v hv).2);exact⟨_,fH hd.ok this⟩
 obtain⟨g,hg⟩: ∃g:Int->Int,∀v∈c.vars,g v∈vals (domAt d v):=⟨λv=>az (domAt d v),λv hv=>fH (hf _ (ah (h.vin v hv).2)).ok λe=>hm (e▸ah (h.vin v hv).2)⟩;cases hL:(c.vars.zip c.coefs).filter (litB d)with
 |nil=>
  have hno: ∀p∈c.vars.zip c.coefs,litB d p=false:=λp hp=>by
   have:=List.filter_eq_nil_iff.1 hL p hp;simpa using this
  obtain⟨v,hv⟩: ∃v,v∈c.vars:=⟨c.vars[0]'h.pos,D8 _⟩;have hvi:=h.vin v hv;obtain⟨y,hy,hyd,hyv⟩:=(kZ (P:=clP d c (aW c.vars)) hnd hin v.toNat).2 (by rw[FL hvi.1];exact(hus v).2 hv);have hy0:y=[]:=by
   refine(fg hyd).1 (F6.2 λx hx=> ?_);obtain⟨f,hf1,hf2,_⟩:=(hyv x).1 hx;obtain⟨p,hp,e⟩:=(hP f).1 hf2;have:=hf1 p.1 ((hus _).2 (hpv p hp));rw[e]at this;have:=hno p hp;rw[(hlb p).2 ‹_›]at this;cases this
  subst hy0;unfold mP;rw[D4 (D7 hy)];rfl
 |cons p l=>
  have hp:p∈c.vars.zip c.coefs/\litB d p=true:=EH.1 (by rw[hL];exact .head _);have hpl:=(hlb p).1 hp.2;have hpi:=h.vin _ (hpv p hp.1);have hpd:=hf _ (ah hpi.2);cases l with
  |nil=>
   obtain⟨hc1,hc2⟩:=bQ hpd.ok (dD p.2) (dD p.2);have hcv: ∀x,x∈vals (domCut (domAt d p.1) (dD p.2) (dD p.2))↔x=dD p.2:=λx=>by
    rw[hc2];constructor;·rintro⟨_,h1,h2⟩;omega
    ·rintro rfl;exact⟨hpl,by omega,by omega⟩
   have hcn:domCut (domAt d p.1) (dD p.2) (dD p.2)≠[]:=λe=>by
    have:=(hcv (dD p.2)).2 Y;rw[e]at this;cases this
   have honly: ∀q∈c.vars.zip c.coefs,litB d q=true->q=p:=λq hq hb=>by
    have:q∈(c.vars.zip c.coefs).filter (litB d):=EH.2 ⟨hq,hb⟩;rw[hL]at this;simpa using this
   have hkeep:clF d [p]=some (d.set p.1.toNat (domCut (domAt d p.1) (dD p.2) (dD p.2))):=by
    show dE d p.1 (dD p.2)=_;unfold dE;rw[D2 hcn]
   rw[hkeep,nO (out:=d.set p.1.toNat (domCut (domAt d p.1) (dD p.2) (dD p.2))) hnd hin (by simp) ?_ ?_ ?_]
   ·unfold mP;rw[D2 λhc=>hcn ((dL hpi.2 hm).1 hc)]
   ·intro x hx;rcases DV hx with hx|rfl;·exact(hf x hx).ok
    ·exact hc1
   ·intro v hv x;have hvc:=(hus v).1 hv;have hvi:=h.vin v hvc;rw[fL hpi.2];by_cases e:p.1.toNat=v.toNat
    ·have e2:p.1=v:=(by omega);rw[D4 e,hcv];subst e2;constructor
     ·rintro rfl;refine⟨λu=>if u=p.1 then dD p.2 else g u,λu hu=> ?_,(hP _).2 ⟨p,hp.1,D4 Y⟩,D4 Y⟩;by_cases e3:u=p.1;·simp only[e3,if_true];exact hpl
      ·simp only[e3,if_false];exact hg u ((hus u).1 hu)
     ·rintro⟨f,hf1,hf2,rfl⟩;obtain⟨q,hq,e3⟩:=(hP f).1 hf2;have:=hf1 q.1 ((hus _).2 (hpv q hq));rw[e3]at this;have:=honly q hq ((hlb q).2 this);subst this;exact e3
    ·have e2:p.1≠v:=λe2=>e (by rw[e2]);rw[D2 e];constructor
     ·intro hx;refine⟨λu=>if u=p.1 then dD p.2 else if u=v then x else g u,λu hu=> ?_,(hP _).2 ⟨p,hp.1,D4 Y⟩,by simp only[Ne.symm e2,if_false,if_true]⟩;by_cases e3:u=p.1;·simp only[e3,if_true];exact hpl
      ·by_cases e4:u=v;·subst e4;simp only[e3,if_false,if_true];exact hx
       ·simp only[e3,e4,if_false];exact hg u ((hus u).1 hu)
     ·rintro⟨f,hf1,_,rfl⟩;exact hf1 v hv
   ·intro i hi;rw[Ds];rintro rfl;exact hi (by rw[FL hpi.1];exact(hus _).2 (hpv p hp.1))
  |cons q l=>
   have hq:q∈c.vars.zip c.coefs/\litB d q=true:=EH.1 (by rw[hL];exact .tail _ (.head _));have hql:=(hlb q).1 hq.2;have hpq:p.1≠q.1:=by
    intro e;have e2:=A2 h.nod hp.1 hq.1 e;have hz:(c.vars.zip c.coefs).Nodup:=by
     refine List.Pairwise.of_map (S:=(· ≠ ·)) Prod.fst (λa b hne e=>hne (by rw[e])) ?_;rw[List.map_fst_zip (by rw[h.len];exact DL _)];exact h.nod
    have:=hz.filter (litB d);rw[hL,e2]at this;simp at this
   have hcl:clF d (p::q::l)=some d:=rfl;rw[hcl,nO (out:=d) hnd hin Y (λx hx=>(hf x hx).ok) ?_ (λ_ _=>rfl)];·unfold mP;rw[D2 hm]
   ·intro v hv x;constructor
    ·intro hx;obtain⟨r,hr,hrv⟩: ∃r,(r∈c.vars.zip c.coefs/\dD r.2∈vals (domAt d r.1))/\r.1≠v:=by
      by_cases e:p.1=v;·exact⟨q,⟨hq.1,hql⟩,λe2=>hpq (e.trans e2.symm)⟩
      ·exact⟨p,⟨hp.1,hpl⟩,e⟩
     refine⟨λu=>if u=r.1 then dD r.2 else if u=v then x else g u,λu hu=> ?_,(hP _).2 ⟨r,hr.1,D4 Y⟩,by simp only[Ne.symm hrv,if_false,if_true]⟩;by_cases e3:u=r.1;·simp only[e3,if_true];exact hr.2
     ·by_cases e4:u=v;·subst e4;simp only[e3,if_false,if_true];exact hx
      ·simp only[e3,e4,if_false];exact hg u ((hus u).1 hu)
    ·rintro⟨f,hf1,_,rfl⟩;exact hf1 v hv
abbrev jn:=List (Int×List Int)
def mpU (u:jn):Own:= .mp true none (u.map λp=>(Value.int .i64 p.1,ao p.2))
def iO (n:Nat)(o:bu):Option Nat:=(List.range n).find? λi=>(lkA o (i:Int)).getD false
def mH (rows:List (List PV))(ua uu:Value):Own:= .box true [.sl rows,.raw ua,.raw uu]
theorem yL (rows:List (List PV))(o:bu)(uq ua uu:Value)(hl:rows.length<=4611686018427387904):
  SpecO Tryz.prog 104 false [uq,ua] [mH rows ua uu,mpS o] [.raw uq] [mH rows ua uu,mpS (match iO rows.length o with
   |some i=>dlA o (i:Int)
   |none=>o)] (λ_=>[]) (λ_=>[.int .i64 ((iO rows.length o).getD 0:Nat),.bool (iO rows.length o).isSome]):=by
 refine SpecO.body [1001,1002] [] Tryz.func104 Y Y Y Y λw0 Z1=> ?_;refine T.sub (Rel.derawp (s:=0) (g:=1001) Y Y Y) ?_;refine .B ?_;refine T.K (T.ind (λi:Nat=>⟨[(0,.optr 0 0 0 0),(9,.val true (.int .i64 rows.length)),(10,.val true (.int .i64 i)),(1001,.eq uq 0),(1002,.eq ua 1)],[(0,some (mH rows ua uu)),(1,some (mpS o))],2⟩)
  (λi=>i<=rows.length/\∀j,j<i->(lkA o (j:Int)).getD false=false) (λi=>rows.length-i) 0 ⟨by simp,λj hj=>by omega⟩ (λ_ _ h=>h) ?_)
 rintro i ⟨hi,hb⟩ ih;refine .B ?_;refine T.cd Y (λh1=> ?_) (λh1=> ?_)
 ·have h1:i<rows.length:=(by simpa using h1);refine .B ?_;refine J.sub (Rel.deraw (s:=16) (g:=1002) Y Y) ?_;refine .B ?_;refine J.ml (i:Int) (.bool false) Y Y Y Y Y Y Y Y Y zx (λ_ _=> .bool _) (nw Tryz.underlying3) (λ_ _ _ h=>c7 h) ?_;have hmb:((lkA o (i:Int)).map PV.bool).getD (.bool false)= .bool ((lkA o (i:Int)).getD false):=(by cases lkA o (i:Int)<;>rfl);rw[hmb];by_cases hs:(lkA o (i:Int)).getD false=true
  ·have hn:iO rows.length o=some i:=by
    unfold iO;rw[FA];exact⟨hs,by simpa using h1,λj hj=>by simpa using hb j hj⟩
   rw[hn,hs];refine .B ?_;refine T.ct Y ?_;refine .B ?_;refine J.sub (Rel.deraw (s:=22) (g:=1002) Y Y) ?_;refine .B ?_;refine J.dl (i:Int) Y Y Y Y Y Y Y Y Y Y (nw Tryz.underlying3) (λ_ _ _ h=>c7 h) ?_;refine .B ?_;exact⟨[0,1],[],[],⟨rfl,rfl,rfl,rfl,rfl,rfl,trivial⟩,trivial,rfl,.v Y Y Y (λ_=>rfl) (.v Y Y Y (λ_=>rfl) .nil)⟩
  ·rw[eq_false_of_ne_true hs];refine .B ?_;refine T.cf Y ?_;refine .B ?_;have hw:IntKind.i64.wrap ((i:Int)+1)=((i+1:Nat):Int):=(by rw[af (by omega) (by omega)];omega);rw[hw];refine T.K (ih (i+1) ⟨by omega,λj hj=> ?_⟩ (by omega));by_cases e:j=i;·subst e;exact eq_false_of_ne_true hs
   ·exact hb j (by omega)
 ·have h1:i=rows.length:=(by simp at h1;omega);subst h1;have hn:iO rows.length o=none:=by
   unfold iO;rw[FS];intro j hj;rw[hb j (DM.1 hj)];simp
  rw[hn];refine .B ?_;exact⟨[0,1],[],[],⟨rfl,rfl,rfl,rfl,rfl,rfl,trivial⟩,trivial,rfl,.v Y Y Y (λ_=>rfl) (.v Y Y Y (λ_=>rfl) .nil)⟩
def eU (l:List Int)(o:bu):bu:=l.foldl (λo i=>upA o i true) o
theorem BY (w:World):(zeroValue 24).run Tryz.prog w= .ok (.slice none 0 0) w:=by kernel_rfl
theorem sH (rows:List (List PV))(o:bu)(u:jn)(v:Int)(uq ua uu:Value)(hl: ∀p∈u,p.2.length*8<=140737488355328):
  SpecO Tryz.prog 107 false [uq,ua,uu] [mH rows ua uu,mpS o,mpU u] [.raw uq,.int .i64 v] [mH rows ua uu,mpS (eU ((lkA u v).getD []) o),mpU u] (λ_=>[]) (λ_=>[]):=by
 refine SpecO.body [1001,1002,1003] [] Tryz.func107 Y Y Y Y λw0 Z1=> ?_;refine T.sub (Rel.derawp (s:=0) (g:=1001) Y Y Y) ?_;refine T.sub (Rel.fine (s:=1) Y Y) ?_;refine .B ?_;refine J.sub (Rel.deraw (s:=9) (g:=1003) Y Y) ?_;refine .B ?_;refine J.ml v (.sl []) Y Y Y Y Y Y Y Y Y BY (λ_ _=> .nilsl) (nw Tryz.underlying3) (λ_ _ _ h=>c7 h) ?_;have hmb:((lkA u v).map ao).getD (.sl [])=ao ((lkA u v).getD []):=(by cases lkA u v<;>rfl);rw[hmb];have hll:((lkA u v).getD []).length*8<=140737488355328:=by
  cases h:lkA u v with
  |none=>simp
  |some l=>exact hl _ (eP h)
 generalize hL:(lkA u v).getD []=l at*;generalize hR:eU l o=R;refine .B ?_;refine T.K (T.ind (λx:Nat×bu=>⟨[(0,.optr 0 0 0 0),(11,.val true (ao l)),(12,.val true (.int .i64 (l.map cI).length)),(13,.val true (.int .i64 x.1)),(1001,.eq uq 0),(1002,.eq ua 1),(1003,.eq uu 2)],[(0,some (mH rows ua uu)),(1,some (mpS x.2)),(2,some (mpU u))],3⟩)
  (λx=>x.1<=l.length/\eU (l.drop x.1) x.2=R) (λx=>l.length-x.1) (0,o) ⟨by simp,hR⟩ (λ_ _ h=>h) ?_)
 rintro⟨i,s⟩ ⟨hi,hR⟩ ih;simp only at hi hR;dsimp only;refine .B ?_;refine T.cd Y (λh1=> ?_) (λh1=> ?_)
 ·have h1:i<l.length:=(by simpa using h1);rw[DQ h1]at hR;refine .B ?_;refine .F (r:=cI l[i]) (aO h1) ?_;refine J.sub (Rel.deraw (s:=20) (g:=1002) Y Y) ?_;refine .B ?_;refine J.mu l[i] true Y Y Y Y Y Y Y Y Y Y Y (nw Tryz.underlying3) (λ_ _ _ h=>c7 h) Y ?_;refine .B ?_;rw[ak (l:=l.length) h1 hll];exact T.K (ih (i+1,upA s l[i] true) ⟨by omega,hR⟩ (by show _-_<_-_;omega))
 ·have h1:i=l.length:=(by simp at h1;omega);subst h1;rw[EY]at hR;obtain rfl:s=R:=hR;refine .B ?_;exact⟨[0,1,2],[],[],⟨rfl,rfl,rfl,rfl,rfl,rfl,rfl,rfl,rfl,trivial⟩,trivial,rfl,.nil⟩
abbrev rV:Value:= .slice none 0 0
def fvL (L:xi)(k:Int):Value:=(L.getD k.toNat (rV,[])).1
def eR (u:jn)(i:Int)(vs:List Int):jn:=vs.foldl (λu v=>upA u v ((lkA u v).getD []++[i])) u
def cW:Nat->List Con->bu->jn->bu×jn
 |_,[],o,u=>(o,u)
 |i,c::cs,o,u=>cW (i+1) cs (upA o i true) (eR u i (usesR c))
def gE (cons:List Con):bu×jn:=cW 0 cons [] []
theorem xI {β γ:Type}(f:Int->γ)(a:Int): ∀u:List (Int×β),lkA (u.map λp=>(p.1,f p.1)) a=(lkA u a).map λ_=>f a
 | []=>rfl
 |p::u=>by
  rw[DZ,cY,cY,xI f a u];by_cases h:p.1=a;·simp[h]
  ·simp[h]
theorem xj {β γ:Type}{f f':Int->γ}{a:Int}{y:γ}{x:β}(h2:f' a=y): ∀u:List (Int×β),(u.map (·.1)).Nodup->(∀p∈u,p.1≠a->f' p.1=f p.1)->upA (u.map λp=>(p.1,f p.1)) a y=(upA u a x).map λp=>(p.1,f' p.1)
 | [],_,_=>by simp[upA,fiA,h2]
 |p::u,hn,h1=>by
  have hn:=ED.1 hn;rw[DZ,g8,g8];by_cases h:p.1=a
  ·rw[D4 h,D4 h,DZ,h2];congr 1;refine EJ λq hq=> ?_;have:q.1≠a:=λe=>hn.1 (DF.2 ⟨q,hq,e.trans h.symm⟩);rw[h1 q (.tail _ hq) this]
  ·rw[D2 h,D2 h,DZ,h1 p (.head _) h,xj h2 u hn.2 λq hq=>h1 q (.tail _ hq)]
theorem nB {β:Type}{a:Int}{x:β}: ∀u:List (Int×β),(u.map (·.1)).Nodup->((upA u a x).map (·.1)).Nodup
 | [],_=>by simp[upA,fiA]
 |p::u,hn=>by
  have hn2:=ED.1 hn;rw[g8];by_cases h:p.1=a
  ·rw[D4 h];have e:((a,x)::u).map (·.1)=(p::u).map (·.1):=(by simp[h]);rw[e];exact hn
  ·rw[D2 h,DZ];refine ED.2 ⟨λhm=> ?_,nB u hn2.2⟩;obtain⟨q,hq,e⟩:=DF.1 hm;rcases mem_upA hq with hq|rfl;·exact hn2.1 (DF.2 ⟨q,hq,e⟩)
   ·exact h e.symm
theorem qM {β:Type}: ∀{u:List (Int×β)},(u.map (·.1)).Nodup->∀{p:Int×β},p∈u->lkA u p.1=some p.2
 |q::u,hn,p,hp=>by
  have hn2:=ED.1 hn;rw[cY];rcases DO.1 hp with rfl|hp;·rw[D4 Y]
  ·have:q.1≠p.1:=λe=>hn2.1 (DF.2 ⟨p,hp,e.symm⟩);rw[D2 this];exact qM hn2.2 hp
structure UsOk (N t:Nat)(u:jn)(L:xi):Prop where
 rows:L.map (·.2)=(List.range N).map λk:Nat=>((lkA u (k:Int)).getD []).map cI
 nil: ∀k:Nat,lkA u (k:Int)=none->(L.getD k (rV,[])).1=rV
 nod:(u.map (·.1)).Nodup
 ks: ∀p∈u,0<=p.1/\p.1.toNat<N
 len: ∀p∈u,p.2.length<=t
theorem UsOk.at {N t:Nat}{u:jn}{L:xi}(h:UsOk N t u L){k:Nat}(hk:k<N): ∃v,L[k]? =some (v,((lkA u (k:Int)).getD []).map cI)/\fvL L k=v:=by
 have e:(L.map (·.2))[k]? =some (((lkA u (k:Int)).getD []).map cI):=(by rw[h.rows,DE,Ep hk];rfl);rw[DE]at e;obtain⟨p,hp,e2⟩:=DY.1 e;refine⟨p.1,by rw[hp,<-e2],?_⟩;unfold fvL;rw[DW,D0,hp];rfl
theorem UsOk.put {N t:Nat}{u:jn}{L:xi}(h:UsOk N t u L){v i:Int}(h0:0<=v)(hv:v.toNat<N)(u':Value):
  UsOk N (t+1) (upA u v ((lkA u v).getD []++[i])) (L.set v.toNat (u',((lkA u v).getD []++[i]).map cI))/\
  upA (u.map λp=>(p.1,fvL L p.1)) v u'=(upA u v ((lkA u v).getD []++[i])).map λp=>(p.1,fvL (L.set v.toNat (u',((lkA u v).getD []++[i]).map cI)) p.1):=by
 have hL:L.length=N:=(by have:=congrArg List.length h.rows;simpa using this);have ev:((v.toNat:Nat):Int)=v:=(by omega);have hlen:((lkA u v).getD []).length<=t:=by
  cases hc:lkA u v with
  |none=>simp
  |some l=>exact h.len _ (eP hc)
 refine⟨⟨?_,λk hk=> ?_,nB u h.nod,λp hp=> ?_,λp hp=> ?_⟩,xj ?_ u h.nod λp hp hne=> ?_⟩
 ·rw[Fz,h.rows,yv];refine EJ λj _=> ?_;rw[lw];by_cases e:j=v.toNat;·rw[D4 e,D4 (by omega)];rfl
  ·rw[D2 e,D2 (by omega)]
 ·rw[lw]at hk;split at hk;·cases hk
  ·rename_i hne;rw[D0,Ds (by omega),<-D0];exact h.nil k hk
 ·rcases mem_upA hp with hp|rfl;·exact h.ks p hp
  ·exact⟨h0,hv⟩
 ·rcases mem_upA hp with hp|rfl;·have:=h.len p hp;omega
  ·simp;omega
 ·unfold fvL;rw[D0,E6 (by omega)];rfl
 ·have:=h.ks p hp;unfold fvL;rw[D0,Ds (by omega),<-D0]
def bF (cons:List Con):PV:= .sl (cons.map cC)
def mpR (u:jn)(L:xi):Own:= .mp true none ((u.map λp=>(p.1,fvL L p.1)).map λp=>(Value.int .i64 p.1,PV.raw p.2))
theorem w9 (cons:List Con)(N:Nat)(hc: ∀c∈cons,ConB c)(hN: ∀c∈cons,∀v∈usesR c,0<=v/\v.toNat<N)(hl:cons.length*128<=140737488355328)(hM:((cons.map λc=>(usesR c).length).sum+1)*8<=140737488355328):
  SpecO Tryz.prog 103 true [] [] [bF cons] [] (λns=>[mH (cons.map cC) (ns.getD 1 undef) (ns.getD 2 undef),mpS (gE cons).1,mpU (gE cons).2]) (λns=>[.raw (ns.getD 0 undef)]):=by
 refine SpecO.body [] [1001,1002,1003] Tryz.func103 Y Y Y Y λw0 Z1=> ?_;generalize hM2:(cons.map λc=>(usesR c).length).sum=M at hM;generalize hR:gE cons=R;refine .B ?_;refine J.mm Y Y Y Y ?_;refine J.mm Y Y Y Y ?_;refine J.name 1002 (s:=9) Y Y Y λua=> ?_;refine J.name 1003 (s:=10) Y Y Y λuu=> ?_;refine J.sub (Rel.raw (s:=9) (g:=1002) Y (.inl Y) Y Y Y) ?_;refine J.sub (Rel.raw (s:=10) (g:=1003) Y (.inl Y) Y Y Y) ?_;refine .B ?_;refine T.sub (λa w h=>Rel.fam0 N 3 1 h) ?_;refine T.nameO 1004 3 Y Y λU0=> ?_;refine T.name 1001 (s:=3) Y Y Y λuq=> ?_;have hcl:(cons.map cC).length=cons.length:=D9 ..;refine T.K (T.ind (λx:Nat×bu×jn×Value×xi=>⟨[(3,.optr 0 0 0 0),(13,.val true (bF cons)),(14,.val true (.int .i64 (cons.map cC).length)),(15,.val true (.int .i64 x.1)),(1001,.eq uq 0),(1002,.eq ua 1),(1003,.eq uu 2),(1004,.eq x.2.2.2.1 3)],[(0,some (mH (cons.map cC) ua uu)),(1,some (mpS x.2.1)),(2,some (mpR x.2.2.1 x.2.2.2.2)),(3,some (.fam 3 1 true x.2.2.2.2))],4⟩)
  (λx=>x.1<=cons.length/\cW x.1 (cons.drop x.1) x.2.1 x.2.2.1=R/\∃t,UsOk N t x.2.2.1 x.2.2.2.2/\t+((cons.drop x.1).map λc=>(usesR c).length).sum<=M) (λx=>cons.length-x.1) (0,[],[],U0,List.replicate N (rV,[]))
  ⟨by simp,hR,0,⟨by simp[List.map_const',wC],λk hk=> ?_,.nil,by simp,by simp⟩,by simp[hM2]⟩ (λ_ _ h=>h) ?_)
 ·show((List.replicate N ((rV,[]):Value×List (List PV))).getD k (rV,[])).1=rV;rw[D0];cases hk:(List.replicate N ((rV,[]):Value×List (List PV)))[k]? with
  |none=>rfl
  |some p=>rw[Fs (D7 hk)];rfl
 rintro⟨i,o,u,U,L⟩ ⟨hi,hR,t,hu,ht⟩ ih;simp only at hi hR hu ht;dsimp only;refine .B ?_;refine T.cd Y (λh1=> ?_) (λh1=> ?_)
 ·have h1:i<cons.length:=(by simpa using h1);have hrow:(cons.map cC)[((i:Nat):Int).toNat]? =some (cC cons[i]):=(by simp[h1]);have hcb:=hc _ (D8 h1);have hin:=hN _ (D8 h1);have hus:=wv cons[i] hcb;rw[DQ h1]at hR ht;rw[cW]at hR;simp only[DZ,Eb]at ht;generalize cons[i]=c at*;generalize usesR c=vs at*;refine .B ?_;refine .F (r:=cC c) hrow ?_;refine .L ?_;refine .B ?_;refine .X ?_;refine J.sub (Rel.deraw (s:=23) (g:=1002) Y Y) ?_;refine .B ?_;refine J.mu (i:Int) true Y Y Y Y Y Y Y Y Y Y Y (nw Tryz.underlying3) (λ_ _ _ h=>c7 h) Y ?_;refine .B ?_;refine .D hus.frz ?_;generalize hu1:eR u i vs=u1 at hR;generalize hrest:((cons.drop (i+1)).map λc=>(usesR c).length).sum=rest at ht;refine T.K (T.ind (λx:Nat×jn×Value×xi=>⟨[(3,.optr 0 0 0 0),(4,.val true (.int .i64 i)),(13,.val true (bF cons)),(14,.val true (.int .i64 (cons.map cC).length)),(15,.val true (.int .i64 i)),(26,.val true (ao vs)),(27,.val true (.int .i64 (vs.map cI).length)),(28,.val true (.int .i64 x.1)),(1001,.eq uq 0),(1002,.eq ua 1),(1003,.eq uu 2),(1004,.eq x.2.2.1 3)],[(0,some (mH (cons.map cC) ua uu)),(1,some (mpS (upA o (i:Int) true))),(2,some (mpR x.2.1 x.2.2.2)),(3,some (.fam 3 1 true x.2.2.2))],4⟩)
   (λx=>x.1<=vs.length/\eR x.2.1 i (vs.drop x.1)=u1/\∃t,UsOk N t x.2.1 x.2.2.2/\t+(vs.length-x.1)+rest<=M) (λx=>vs.length-x.1) (0,u,U,L) ⟨by simp,hu1,t,hu,by simp;omega⟩ (λ_ _ h=>h) ?_)
  rintro⟨j,u,U,L⟩ ⟨hj,hu1,t,hu,ht⟩ ih2;simp only at hj hu1 hu ht;dsimp only;refine .B ?_;refine T.cd Y (λh2=> ?_) (λh2=> ?_)
  ·have h2:j<vs.length:=(by simpa using h2);have hv:=hin _ (D8 h2);have hvr:(vs.map cI)[((j:Nat):Int).toNat]? =some (cI vs[j]):=aO h2;rw[DQ h2]at hu1;generalize vs[j]=v at*;obtain⟨uk,hk,hfv⟩:=hu.at hv.2;have ev:((v.toNat:Nat):Int)=v:=(by omega);rw[ev]at hk hfv;have hpu:=λu'=>hu.put (i:=(i:Int)) hv.1 hv.2 u';have hkl:((lkA u v).getD []).length<=t:=by
    cases hc:lkA u v with
    |none=>simp
    |some l=>exact hu.len _ (eP hc)
   have hval:((lkA (u.map λp=>(p.1,fvL L p.1)) v).map λx=>PV.raw x)=some (.raw uk)∨(lkA (u.map λp=>(p.1,fvL L p.1)) v=none/\rV=uk):=by
    rw[xI];cases hc:lkA u v with
    |some l=>exact .inl (by simp[hfv])
    |none=>
     refine .inr ⟨rfl,?_⟩;have:=hu.nil v.toNat (by rw[ev];exact hc);rw[D0,hk]at this;exact this.symm
   generalize hold:((lkA u v).getD []:List Int)=old at*;refine .B ?_;refine .I (r:=cI v) hvr ?_;refine .M ?_;refine T.sub (λa w h=>Rel.split 1005 v.toNat (q:=3) Y Y hk h) ?_;refine T.rdw 14 Y (by kernel_rfl) Y ?_
   iterate 8 refine J.H Y ?_
   refine J.lr 1003 (q:=2) (u:=uu) Y Y Y Y Y Y Y Y Y ?_;refine J.H Y ?_;refine J.lm 1005 v Y Y Y Y Y Y Y Y Y BY (nw Tryz.underlying3) (λ_ _ _ h=>c7 h) hval Y Y ?_;refine J.H Y ?_;refine .V ?_;refine J.ad Y Y Y Y Y Y Y Y Y Y Y Y Y Y Y Y Y Y (c9 Y) (by show(List.length _+1)*8<=_;simp;omega) ?_;refine J.nil ⟨rfl,?_⟩;refine J.name 1006 (s:=45) Y Y Y λu'=> ?_;refine J.sub (Rel.raw (s:=45) (g:=1006) Y (.inl Y) Y Y Y) ?_;refine J.sub (Rel.deraw (s:=35) (g:=1003) Y Y) ?_;refine J.mu v u' Y Y Y Y Y Y Y Y Y Y Y (nw Tryz.underlying3) (λ_ _ _ h=>c7 h) Y ?_;refine J.sub (λa w h=>Rel.join v.toNat (g:=1006) (q:=5) (n:=6) (rows:=(old++[(i:Int)]).map cI) Y (by rw[EC];rfl) Y Y h) ?_;refine J.nil ?_;refine T.nameO 1004 7 Y Y λU3=> ?_;refine .B ?_;rw[ak (l:=vs.length) h2 (by omega),List.set_set,(hpu u').2];have hih:=ih2 (j+1,upA u v (old++[(i:Int)]),U3,L.set v.toNat (u',(old++[(i:Int)]).map cI)) ⟨by omega,by rw[<-hu1,<-hold];rfl,t+1,(hpu u').1,by show t+1+(vs.length-(j+1))+rest<=M;omega⟩ (by show _-_<_-_;omega);exact T.K hih
  ·have h2:j=vs.length:=(by simp at h2;omega);subst h2;rw[EY]at hu1;obtain rfl:u=u1:=hu1;refine .B ?_;rw[ak (l:=cons.length) h1 (by omega)];have hih:=ih (i+1,upA o (i:Int) true,u,U,L) ⟨by omega,hR,t,hu,by show t+((cons.drop (i+1)).map λc=>(usesR c).length).sum<=M;omega⟩ (by show _-_<_-_;omega);exact T.K hih
 ·have h1:i=cons.length:=(by simp at h1;omega);subst h1;rw[EY,cW]at hR;subst hR;have hin: ∀p∈u.map λp=>(Value.int .i64 p.1,fvL L p.1,p.2.map cI),p.2∈L:=by
   intro p hp;obtain⟨q,hq,rfl⟩:=DF.1 hp;have hks:=hu.ks q hq;obtain⟨v,h1,h2⟩:=hu.at hks.2;have ev:((q.1.toNat:Nat):Int)=q.1:=(by omega);rw[ev]at h1 h2;have hlk:lkA u q.1=some q.2:=by
    obtain⟨i,hi⟩:=DH hq;exact qM hu.nod hq
   rw[hlk]at h1;simp only[h2];exact D7 h1
  have hmp:mpR u L= .mp true none ((u.map λp=>(Value.int .i64 p.1,fvL L p.1,p.2.map cI)).map λp=>(p.1,PV.raw p.2.1)):=by
   unfold mpR;rw[F3,F3];rfl
  refine T.sub (λa w h=>Rel.meltM (qc:=2) (q:=3) (e:=3) (sz:=1) (frc:=true) (fr:=true) (b:=none) (L:=L) (u.map λp=>(Value.int .i64 p.1,fvL L p.1,p.2.map cI)) hin (λb h=>by obtain⟨u,hu,_⟩:=h;cases hu) (by exact congrArg some hmp) Y Y h) ?_;refine T.sub (Rel.raw (s:=3) (g:=1001) Y (.inr Y) Y Y Y) ?_;rw[show((u.map λp=>(Value.int .i64 p.1,fvL L p.1,p.2.map cI)).map λp=>(p.1,PV.sl p.2.2))=u.map λp=>(Value.int .i64 p.1,ao p.2)from by rw[F3];rfl];refine .B ?_;exact⟨[],[0,1,2],[uq,ua,uu],trivial,⟨rfl,rfl,rfl,rfl,rfl,rfl,rfl,rfl,rfl,trivial⟩,rfl,.v Y Y Y (λ_=>rfl) .nil⟩
def cJ (o:bu)(j:Nat):Bool:=(lkA o (j:Int)).getD false
theorem oM (c:Int): ∀(l:List Int) (o:bu),lkA (eU l o) c=if c∈l then some true else lkA o c
 | [],o=>by simp[eU]
 |x::l,o=>by
  have:=oM c l (upA o x true);rw[show eU (x::l) o=eU l (upA o x true)from Y,this,lw];by_cases h:c∈l;·rw[D4 h,D4 (.tail _ h)]
  ·rw[D2 h];by_cases e:x=c;·rw[D4 e,D4 (by rw[e];exact .head _)]
   ·rw[D2 e,D2 (λhm=>(DO.1 hm).elim (λh2=>e h2.symm) h)]
theorem m4: ∀(l:List Int) (o:bu),(o.map (·.1)).Nodup->((eU l o).map (·.1)).Nodup
 | [],o,h=>h
 |x::l,o,h=>m4 l (upA o x true) (nB o h)
theorem xX {β:Type}(p:Int×β)(l:List (Int×β))(a:Int):dlA (p::l) a=if p.1=a then l else p::dlA l a:=by
 unfold dlA;rw[sf];by_cases h:p.1=a;·rw[D4 h,D4 h];rfl
 ·rw[D2 h,D2 h];cases fiA l a<;>simp
theorem AR {β:Type}(a:Int): ∀l:List (Int×β),(dlA l a).Sublist l
 | []=>by simp[dlA,fiA]
 |p::l=>by
  rw[xX];split;·exact List.sublist_cons_self _ _
  ·exact(AR a l).cons_cons p
theorem B6 {β:Type}(a c:Int): ∀l:List (Int×β),(l.map (·.1)).Nodup->lkA (dlA l a) c=if a=c then none else lkA l c
 | [],_=>by simp[dlA,fiA,wC]
 |p::l,hn=>by
  have hn2:=ED.1 hn;have hno:p.1=c->lkA l c=none:=λe=>by
   cases h:lkA l c with
   |none=>rfl
   |some b=>exact DU (DF.2 ⟨(c,b),eP h,e.symm⟩) hn2.1
  rw[xX];by_cases h:p.1=a
  ·rw[D4 h,cY];by_cases e:a=c;·rw[D4 e];exact hno (h.trans e)
   ·rw[D2 e,D2 (λh2=>e (h.symm.trans h2))]
  ·rw[D2 h,cY,cY,B6 a c l hn2.2];by_cases e:p.1=c;·rw[D4 e,D4 e,D2 (λh2=>h (e.trans h2.symm))]
   ·rw[D2 e,D2 e]
theorem nW (i c:Int): ∀(vs:List Int) (u:jn),vs.Nodup->(lkA (eR u i vs) c).getD []=if c∈vs then(lkA u c).getD []++[i]else(lkA u c).getD []
 | [],u,_=>by simp[eR]
 |v::vs,u,hn=>by
  have hn2:=ED.1 hn;rw[show eR u i (v::vs)=eR (upA u v ((lkA u v).getD []++[i])) i vs from Y,nW i c vs _ hn2.2,lw];by_cases e:v=c
  ·subst e;rw[D2 hn2.1,D4 Y,D4 (.head _)];rfl
  ·rw[D2 e];by_cases h:c∈vs;·rw[D4 h,D4 (.tail _ h)]
   ·rw[D2 h,D2 (λhm=>(DO.1 hm).elim (λh2=>e h2.symm) h)]
theorem pG: ∀(cons:List Con) (i:Nat) (o:bu) (u:jn),(o.map (·.1)).Nodup->
  (((cW i cons o u).1).map (·.1)).Nodup/\(∀j,cJ (cW i cons o u).1 j=if i<=j/\j<i+cons.length then true else cJ o j)/\
  ∀(v x:Int),x∈(lkA (cW i cons o u).2 v).getD []↔x∈(lkA u v).getD []∨∃k c,cons[k]? =some c/\v∈usesR c/\x=((i+k:Nat):Int)
 | [],i,o,u,h=>⟨h,λj=>by rw[D2 (by simp)];rfl,λv x=>by simp[cW]⟩
 |c::cons,i,o,u,h=>by
  obtain⟨h1,h2,h3⟩:=pG cons (i+1) (upA o i true) (eR u i (usesR c)) (nB o h);refine⟨h1,λj=> ?_,λv x=> ?_⟩
  ·have e1:cJ (upA o i true) j=if i=j then true else cJ o j:=by
    unfold cJ;rw[lw];by_cases e:i=j;·rw[D4 e,D4 (by omega)];rfl
    ·rw[D2 e,D2 (by omega)]
   rw[cW,h2 j,e1];by_cases e:i=j;·rw[D4 e,ite_self,D4 (by simp;omega)]
   ·rw[D2 e];by_cases hj:i+1<=j/\j<i+1+cons.length;·rw[D4 hj,D4 (by simp;omega)]
    ·rw[D2 hj,D2 (by simp;omega)]
  ·rw[cW,h3 v x,nW _ _ (usesR c) u (dA (b9 _))];constructor
   ·rintro(hx|⟨k,c',h4,h5,h6⟩)
    ·split at hx
     ·rename_i hv;rcases DT.1 hx with hx|hx;·exact .inl hx
      ·exact .inr ⟨0,c,rfl,hv,by rw[DG.1 hx];rfl⟩
     ·exact .inl hx
    ·exact .inr ⟨k+1,c',by simpa using h4,h5,by rw[h6];congr 1;omega⟩
   ·rintro(hx|⟨k,c',h4,h5,h6⟩)
    ·refine .inl ?_;split;·exact Do _ hx
     ·exact hx
    ·cases k with
     |zero=>
      simp at h4;subst h4;rw[D4 h5];exact .inl (Dq _ (by rw[h6];exact .head _))
     |succ k=>exact .inr ⟨k,c',by simpa using h4,h5,by rw[h6];congr 1;omega⟩
theorem mO {t:Nat}(i:Int): ∀(vs:List Int) (u:jn),(∀p∈u,p.2.length<=t)->∀p∈eR u i vs,p.2.length<=t+vs.length
 | [],u,h,p,hp=>h p hp
 |v::vs,u,h,p,hp=>by
  have:=mO (t:=t+1) i vs (upA u v ((lkA u v).getD []++[i])) (λq hq=>by
   rcases mem_upA hq with hq|rfl;·have:=h q hq;omega
   ·have:((lkA u v).getD []).length<=t:=by
     cases hc:lkA u v with
     |none=>simp
     |some l=>exact h _ (eP hc)
    simp;omega) p hp
  simp;omega
theorem rA: ∀(cons:List Con) (i t:Nat) (o:bu) (u:jn),(∀p∈u,p.2.length<=t)->∀p∈(cW i cons o u).2,p.2.length<=t+(cons.map λc=>(usesR c).length).sum
 | [],i,t,o,u,h,p,hp=>by simpa[cW]using h p hp
 |c::cons,i,t,o,u,h,p,hp=>by
  have:=rA cons (i+1) (t+(usesR c).length) (upA o i true) (eR u i (usesR c)) (mO _ _ _ h) p hp;simp only[DZ,Eb];omega
def AllEnds (cons:List Con)(d:aa)(R:Option aa):Prop:=ex leD (GoodD d.length) bL cons d R
open Classical in
noncomputable def f7 (cons:List Con)(d:aa):Option aa:=if h: ∃R:Option aa,AllEnds cons d R then h.choose else none
theorem fC {cons:List Con}{d:aa}{R:Option aa}(h:AllEnds cons d R):R=f7 cons d:=by
 have hex: ∃R:Option aa,AllEnds cons d R:=⟨R,h⟩;unfold f7;rw[dif_pos hex];exact ex.one (aY d.length) (λ_=>Iff.rfl) h hex.choose_spec
theorem xe {cons:List Con}{d:aa}(h: []∈d):f7 cons d=none:=by
 refine(fC (R:=none) ?_).symm;rintro⟨e,ge,hle,_⟩;obtain⟨j,hj⟩:=DH h;have hjl:=(D5.1 hj).1;obtain⟨x,hx⟩:=ge.ne (v:=(j:Int)) (by simpa using hjl);have:=hle.2 j x (by omega) hx;unfold domAt at this;rw[D0,DW,hj]at this;cases this
theorem leD.sub {n:Nat}{a b:aa}(ga:GoodD n a)(gb:GoodD n b)(h:leD a b):Sub a b:=by
 refine⟨h.1,λi x y hx hy v hv=> ?_⟩;have h1:domAt a (i:Int)=x:=by
  unfold domAt;rw[D0,DW,hx];rfl
 have h2:domAt b (i:Int)=y:=by
  unfold domAt;rw[D0,DW,hy];rfl
 have:=h.2 (i:Int) v (by omega) (by rw[h1];exact hv);rwa[h2]at this
theorem gG {n:Nat}{a b:aa}(ga:GoodD n a)(gb:GoodD n b)(h:leD a b):weight a<=weight b/\(a≠b->weight a<weight b):=jq (leD.sub ga gb h) ga.few.fine gb.few.fine
def w4 (m:Nat)(o:bu):Nat:=((List.range m).filter (cJ o)).length
theorem BQ (m:Nat)(o:bu):w4 m o<=m:=by
 have:=EX (cJ o) (List.range m);simpa[w4]using this
structure QInv (cons:List Con)(d:aa)(x:aa×bu):Prop where
 come:Come leD (GoodD d.length) bL cons d x.1
 nod:(x.2.map (·.1)).Nodup
 shut: ∀(j:Nat) c,cons[j]? =some c->cJ x.2 j=false->bL c x.1=some x.1
theorem vS {cons:List Con}{d:aa}(gd:GoodD d.length d):QInv cons d (d,(gE cons).1):=by
 obtain⟨h1,h2,_⟩:=pG cons 0 [] [] .nil;refine⟨Come.refl (aY _) gd,h1,λj c hj hb=> ?_⟩;have hjl:=(D5.1 hj).1;have:=h2 j;rw[D4 (by omega)]at this;rw[show cJ (d,(gE cons).1).2 j=cJ (cW 0 cons [] []).1 j from Y,this]at hb;cases hb
theorem zW {cons:List Con}{d:aa}{x:aa×bu}(h:QInv cons d x)(hn:iO cons.length x.2=none):AllEnds cons d (some x.1):=by
 refine⟨h.come,λc hc=> ?_⟩;obtain⟨j,hj⟩:=DH hc;have hjl:=(D5.1 hj).1;have:=FS.1 hn j (DM.2 hjl);exact h.shut j c hj (by simpa[cJ]using this)
theorem yw {cons:List Con}{d:aa}{P:Con->(Int->Int)->Prop}(hs: ∀c∈cons,StepOK d.length (usesR c) (P c) (bL c)){x:aa×bu}{i:Nat}{c:Con}{now:aa}{o2:bu}(h:QInv cons d x)(hi:iO cons.length x.2=some i)(hc:cons[i]? =some c)(hnow:bL c x.1=some now)
  (ho: ∀j,cJ o2 j=true↔cJ (dlA x.2 (i:Int)) j=true∨∃v c',v<x.1.length/\x.1[v]? ≠now[v]? /\cons[j]? =some c'/\(v:Int)∈usesR c') (hn2:(o2.map (·.1)).Nodup):
  QInv cons d (now,o2)/\weight now*(cons.length+1)+w4 cons.length o2<weight x.1*(cons.length+1)+w4 cons.length x.2:=by
 have O:=aY d.length;have hcm:=D7 hc;have hst:=hs c hcm;have gx:=h.come.fine;have hcome:=h.come.step O hcm hst.takes hnow;have gn:=hcome.fine;have hlo:x.1.length=now.length:=(by rw[gx.len,gn.len]);have hle:=(hst.takes.less _ _ gx hnow).2;have hopen:cJ x.2 i=true/\i<cons.length:=by
  unfold iO at hi;rw[FA]at hi;exact⟨hi.1,by simpa using hi.2.1⟩
 have hd: ∀j,cJ (dlA x.2 (i:Int)) j=if i=j then false else cJ x.2 j:=λj=>by
  unfold cJ;rw[B6 _ _ _ h.nod];by_cases e:i=j;·subst e;rw[D4 Y,D4 Y];rfl
  ·rw[D2 (by omega),D2 e]
 have same: ∀j c',cons[j]? =some c'->cJ o2 j=false->∀u∈usesR c',domAt x.1 u=domAt now u:=λj c' hj hb u hu=>by
  have hin:=(hs c' (D7 hj)).in' u hu;have hne: ¬(x.1[u.toNat]? ≠now[u.toNat]?):=λhne=>by
   have:=(ho j).2 (.inr ⟨u.toNat,c',by rw[gx.len];exact hin.2,hne,hj,by rw[show((u.toNat:Nat):Int)=u by omega];exact hu⟩);rw[hb]at this;cases this
  have e:=Classical.not_not.1 hne;unfold domAt;rw[D0,D0,e]
 refine⟨⟨hcome,hn2,λj c' hj hb=> ?_⟩,?_⟩
 ·have hbd:cJ (dlA x.2 (i:Int)) j=false:=by
   cases hh:cJ (dlA x.2 (i:Int)) j with
   |false=>rfl
   |true=>rw[(ho j).2 (.inl hh)]at hb;cases hb
  rw[hd j]at hbd;by_cases e:i=j
  ·subst e;rw[hc]at hj;obtain rfl:=D3 hj;have hsm:=same i c hc hb;have e:now=x.1:=jj gn gx λv y h0=>by
    by_cases hv:v∈usesR c;·rw[hsm v hv]
    ·rw[hst.off x.1 now gx hnow v h0 hv]
   show bL c now=some now;rw[e,hnow,e]
  ·rw[D2 e]at hbd;exact(hs c' (D7 hj)).stays x.1 now gx gn (h.shut j c' hj hbd) (same j c' hj hb)
 ·have hw:=gG gn gx hle;by_cases e:now=x.1
  ·subst e;have hcnt:w4 cons.length o2<w4 cons.length x.2:=by
    refine jG (p:=cJ x.2) (q:=cJ o2) (List.range cons.length) i (λj hj=> ?_) (DM.2 hopen.2) hopen.1 ?_
    ·rcases (ho j).1 hj with h1|⟨v,_,_,hne,_⟩
     ·rw[hd j]at h1;split at h1;·cases h1
      ·exact h1
     ·exact DU Y hne
    ·cases hb:cJ o2 i with
     |false=>rfl
     |true=>
      rcases (ho i).1 hb with h1|⟨v,_,_,hne,_⟩;·rw[hd i,D4 Y]at h1;cases h1
      ·exact DU Y hne
   omega
  ·have h1:=hw.2 e;have h2:=BQ cons.length o2;have h3:weight now*(cons.length+1)+(cons.length+1)<=weight x.1*(cons.length+1):=by
    have:=EA (cons.length+1) h1;rw[Fo]at this;exact this
   omega
def wm (x:List (Int×Int)):Bool:=decide ((vals x).length=1)
def cB (d:aa):Option (List Int):=if d.all wm=true then some (d.map az)else none
def Bp (R:Option (List Int)):List RV:=[.own 3 1 ((R.getD []).map cI),.val (.bool R.isSome)]
theorem vI {pre post:aa}{x:List (Int×Int)}(h:wm x=false):cB (pre++x::post)=none:=by
 unfold cB;rw[D2];simp[h]
theorem sc (d:aa)(hd:d.length*24<=140737488355328)(hf: ∀x∈d,Fine x):Spec Tryz.prog 69 false [aJ d] (Bp (cB d)):=by
 refine Spec.body Tryz.func69 Y Y Y λw0 Z0=> ?_;generalize hR:cB d=R;refine .B ?_;refine .Q ?_;refine T.K (T.listI d (λpre=>pre.all wm=true) (λn pre post=>⟨[(4,.ref 0),(10,.val false (aJ d)),(11,.val true (.int .i64 (d.map cD).length)),(12,.val true (.int .i64 n))],[(0,some (.sl 3 1 true ((pre.map az).map cI)))],1⟩) (λ_ _ h=>h) (by simp) ?_ ?_)
 ·rintro n pre x post h hn hi ih;have hlt:=cg h hn;have hfx:=hf x (by rw[h];simp);have hxl:=hfx.len;have hs:=th hfx;refine .B ?_;refine T.ct2 Y (ce h hn) ?_;refine .B ?_;refine .F (r:=cD x) (aS h hn) ?_;refine .D (kz x) ?_;have no:wm x=false->R=none:=λhx=>(by rw[<-hR,h];exact vI hx);cases hx:x.isEmpty with
  |true=>
   have hxe:x=[]:=(by simpa using hx);have hR2:=no (by rw[hxe];rfl);subst hR2;refine .B ?_;refine T.ct Y ?_;refine .B ?_;exact⟨_,.ownN Y (.v Y Y Y (λ_=>rfl) .nil)⟩
  |false=>
   refine .B ?_;refine .D (gI x (by omega)) ?_;refine T.cd Y (λh1=> ?_) (λh1=> ?_)
   ·have hR2:=no (DC λe=>by
     rw[hs,e]at h1;exact h1 Y)
    subst hR2;refine .B ?_;exact⟨_,.ownN Y (.v Y Y Y (λ_=>rfl) .nil)⟩
   ·have h1:wm x=true:=DD (by
     have:fM x=1:=Classical.not_not.1 h1;rw[hs]at this;omega)
    refine .B ?_;refine .V ?_;refine J.aI Y Y Y Y Y Y Y Y Y Y Y Y Y Y Y Y Y Y Y (by simp;omega) ?_;refine .B ?_;rw[ak hlt (by omega)];have:=ih (by simp[hi,h1]);rw[EC]at this;exact T.K this
 ·intro hi;have hR:some (d.map az)=R:=(by rw[<-hR,cB,D4 hi]);subst hR;refine .B ?_;refine T.cf2 Y bA ?_;refine .B ?_;exact⟨_,.o Y Y Y (λ_=> .inl Y) (by simp) (.v rfl rfl rfl (λ_=>rfl) .nil)⟩
structure ConsOk (d:aa)(cons:List Con):Prop where
 con: ∀c∈cons,ConB c
 right: ∀c∈cons,RightC d c
 few:cons.length*128<=140737488355328
 uses:((cons.map λc=>(usesR c).length).sum+1)*8<=140737488355328
theorem ConsOk.step {d:aa}{cons:List Con}(h:ConsOk d cons)(gd:GoodD d.length d): ∀c∈cons,StepOK d.length (usesR c) (λg=>(c.kind=4->0<=g c.b/\g c.b<=1)->holdsR c (kg d.length g)=true) (bL c):=λc hc=>tR gd (h.con c hc) (h.right c hc)
theorem ze (d:aa)(cons:List Con)(hd:d.length*24<=140737488355328)(hx: ∀x∈d,Fine x/\(vals x).length<=4096)(hc:ConsOk d cons)
  (hone: ∀c∈cons,∀out,GoodD d.length out->leD out d->Spec Tryz.prog 105 false [aJ out,.agg (cC c)] (aX (bL c out))):
  Spec Tryz.prog 67 false [aJ d,bF cons] (aX (f7 cons d)):=by
 refine Spec.body Tryz.func67 Y Y Y λw0 Z0=> ?_;generalize hR:f7 cons d=R;refine .B ?_;refine T.sub (Rel.own0 (s:=6) 54 1 Y) ?_;refine T.K (T.listI d (λpre=>[]∉pre) (λn pre post=>⟨[(1,.val false (bF cons)),(6,.ref 0),(15,.val false (aJ d)),(16,.val true (.int .i64 (d.map cD).length)),(17,.val true (.int .i64 n))],[(0,some (.sl 54 1 true (pre.map cD)))],1⟩) (λ_ _ h=>h) (by simp) ?_ ?_)
 ·rintro n pre x post h hn hi ih;have hlt:=cg h hn;have hxl:=(hx x (by rw[h];simp)).1.len;refine .B ?_;refine T.ct2 Y (ce h hn) ?_;refine .B ?_;refine .F (r:=cD x) (aS h hn) ?_;refine T.cd Y (λh1=> ?_) (λh1=> ?_)
  ·have hxe:x=[]:=(by simp at h1;exact h1);have:R=none:=(by rw[<-hR,xe (by rw[h,hxe];simp)]);subst this;refine .B ?_;exact⟨_,.ownN Y (.v Y Y Y (λ_=>rfl) .nil)⟩
  ·have hxe:x≠[]:=λe=>h1 (by rw[e];rfl);refine .B ?_;refine .D (bR x (by omega)).frz ?_;refine .V ?_;refine J.aD Y Y Y Y Y Y Y Y Y Y Y Y Y Y Y Y Y Y Y (by omega) ?_;refine .B ?_;rw[ak hlt (by omega)];exact T.K (ih (by simp[hi,Ne.symm hxe]))
 ·intro hne;have gd:GoodD d.length d:=⟨⟨hd,λx h=>(hx x h).1,λx h=>(hx x h).2⟩,rfl,hne⟩;have hst:=hc.step gd;refine .B ?_;refine T.cf2 Y bA ?_;refine .B ?_;have hbg:=w9 cons d.length hc.con (λc hcc=>(qj (hc.con c hcc) (hc.right c hcc)).2.2) hc.few hc.uses;refine J.co (qs:=[]) (cs2:=[]) false [] [1001,1002,1003] Y Y Y Y Y Y hbg trivial Y Y Y Y Y Y Y λns hns=> ?_;obtain⟨uq,ua,uu,rfl⟩: ∃uq ua uu,ns=[uq,ua,uu]:=by
   match ns,hns with
   | [a,b,c],_=>exact⟨a,b,c,rfl⟩
  refine .B ?_;have hlen: ∀p∈(gE cons).2,p.2.length*8<=140737488355328:=λp hp=>by
   have:=rA cons 0 0 [] [] (by simp) p hp;have:=hc.uses;omega
  have hlk: ∀(v x:Int),x∈(lkA (gE cons).2 v).getD []↔∃(k:Nat) (c:Con),cons[k]? =some c/\v∈usesR c/\x=(k:Int):=λv x=>by
   have:=(pG cons 0 [] [] .nil).2.2 v x;rw[show(gE cons).2=(cW 0 cons [] []).2 from Y,this];simp[wC]
  have hqb:=vS (cons:=cons) gd;generalize (gE cons).1=o0 at*;generalize (gE cons).2=us at*;refine T.K (T.ind (λx:aa×bu=>⟨[(1,.val false (bF cons)),(6,.ref 0),(9,.val true (.raw uq)),(1001,.eq uq 1),(1002,.eq ua 2),(1003,.eq uu 3)],[(0,some (.sl 54 1 true (x.1.map cD))),(1,some ((mH (cons.map cC) ua uu).reg false)),(2,some ((mpS x.2).reg false)),(3,some ((mpU us).reg false))],4⟩)
   (λx=>QInv cons d x) (λx=>weight x.1*(cons.length+1)+w4 cons.length x.2) (d,o0) hqb (λ_ _ h=>h) ?_)
  rintro⟨out,o⟩ hq ih;dsimp only;have gx:GoodD d.length out:=hq.come.fine;have hnx:=yL (cons.map cC) o uq ua uu (by simp;have:=hc.few;omega);rw[D9]at hnx;refine .B ?_;refine J.co (qs:=[1,2]) (cs2:=[(mH (cons.map cC) ua uu).reg false,(mpS o).reg false]) false [1001,1002] [] Y Y Y Y Y Y hnx ⟨rfl,rfl,rfl,rfl,trivial⟩ Y Y Y Y Y Y Y λns hns=> ?_;obtain rfl:ns=[]:=DP hns;cases hn:iO cons.length o with
  |none=>
   have hfin:=fC (zW hq hn);rw[hR]at hfin;subst hfin;refine .B ?_;refine T.ct Y ?_;refine .B ?_;exact⟨_,.o Y Y Y (λ_=> .inl Y) (by simp) (.v rfl rfl rfl (λ_=>rfl) .nil)⟩
  |some i=>
   have hil:i<cons.length:=by
    unfold iO at hn;rw[FA]at hn;simpa using hn.2.1
   have hci:cons[i]? =some cons[i]:=D1 hil;have hcm:=D8 hil;have hrow:(cons.map cC)[((i:Nat):Int).toNat]? =some (cC cons[i]):=(by simp[hil]);have hsp:=hone _ hcm out gx hq.come.less;have hstc:=hst _ hcm;have hqs:=λnow o2=>yw (o2:=o2) (now:=now) hst hq hn hci;generalize cons[i]=c at*;refine .B ?_;refine T.cf Y ?_;refine .B ?_;refine J.i Y Y Y Y Y Y Y Y Y (r:=cC c) (by simp) hrow rfl ?_;refine .B ?_;refine .C hsp ?_;cases hnow:bL c out with
   |none=>
    have hfin:=fC (d:=d) (R:=none) (show AllEnds cons d none from hq.come.none hcm hstc.takes hnow);rw[hR]at hfin;subst hfin;refine .B ?_;refine T.ct Y ?_;refine .B ?_;exact⟨_,.ownN Y (.v Y Y Y (λ_=>rfl) .nil)⟩
   |some now=>
    have hqs:=λo2=>hqs now o2 hnow;have gn:=(hstc.takes.less _ _ gx hnow).1;refine .B ?_;refine T.cf Y ?_;refine .B ?_;have hlen2:out.length=now.length:=(by rw[gx.len,gn.len]);have hml:((cons.map cC).length:Nat)=cons.length:=D9 ..;refine T.K (T.ind (λx:Nat×bu=>⟨[(1,.val false (bF cons)),(6,.ref 0),(9,.val true (.raw uq)),(12,.ref 4),(52,.val true (.int .i64 (out.map cD).length)),(53,.val true (.int .i64 x.1)),(1001,.eq uq 1),(1002,.eq ua 2),(1003,.eq uu 3)],[(0,some (.sl 54 1 true (out.map cD))),(1,some ((mH (cons.map cC) ua uu).reg false)),(2,some ((mpS x.2).reg false)),(3,some ((mpU us).reg false)),(4,some (.sl 54 1 true (now.map cD)))],5⟩)
     (λx=>x.1<=out.length/\(x.2.map (·.1)).Nodup/\∀j,cJ x.2 j=true↔cJ (dlA o (i:Int)) j=true∨∃(w:Nat) (c':Con),w<x.1/\out[w]? ≠now[w]? /\cons[j]? =some c'/\(w:Int)∈usesR c') (λx=>out.length-x.1) (0,dlA o (i:Int))
     ⟨by simp,hq.nod.sublist ((AR (i:Int) o).map _),λj=>⟨.inl,λh=>h.resolve_right λ⟨w,c',h1,_⟩=>DU h1 (EO w)⟩⟩ (λ_ _ h=>h) ?_)
    rintro⟨v,o2⟩ ⟨hv,hnd,ho⟩ ih2;simp only at hv hnd ho;dsimp only;refine .B ?_;refine T.cd Y (λh1=> ?_) (λh1=> ?_)
    ·have h1:v<out.length:=(by simpa using h1);have h2:v<now.length:=(by omega);have hxl:=(gx.few.fine _ (D8 h1)).len;have ra:(out.map cD)[((v:Nat):Int).toNat]? =some (cD out[v]):=(by simp[h1]);have rb:(now.map cD)[((v:Nat):Int).toNat]? =some (cD now[v]):=(by simp[h2]);have ea:out[v]? =some out[v]:=D1 h1;have eb:now[v]? =some now[v]:=D1 h2;have hw1:IntKind.i64.wrap ((v:Int)+1)=((v+1:Nat):Int):=ak (l:=out.length) h1 (by have:=gx.few.small;omega);have hch:=sH (cons.map cC) o2 us (v:Int) uq ua uu hlen;generalize hxa:out[v]=xa at*;generalize hxb:now[v]=xb at*;refine .B ?_;refine .M ?_;refine J.io Y Y Y Y Y Y Y Y Y (by omega) (by simpa using h1) Y ?_;refine J.lo Y Y Y Y Y Y (r:=cD xa) ra Y ?_;refine .M ?_;refine J.io Y Y Y Y Y Y Y Y Y (by omega) (by simpa using h2) Y ?_;refine J.lo Y Y Y Y Y Y (r:=cD xb) rb Y ?_;refine .M ?_;refine .C (ef xa xb (by omega)) ?_;by_cases hab:xa=xb
     ·rw[DD hab];refine .B ?_;refine T.cf Y ?_;refine .B ?_;rw[hw1];have:=ih2 (v+1,o2) ⟨by omega,hnd,λk=>(ho k).trans (or_congr_right ⟨λ⟨w,c',h3,h4⟩=>⟨w,c',by omega,h4⟩,λ⟨w,c',h3,h4,h5⟩=>⟨w,c',by
       have:w≠v:=λe=>h4 (by rw[e,ea,eb,hab]);omega,h4,h5⟩⟩)⟩ (by show _-_<_-_;omega)
      exact T.K this
     ·rw[DC hab];refine .B ?_;refine T.ct Y ?_;refine .B ?_;refine J.co (qs:=[1,2,3]) (cs2:=[(mH (cons.map cC) ua uu).reg false,(mpS o2).reg false,(mpU us).reg false]) false [1001,1002,1003] [] Y Y Y Y Y Y hch ⟨rfl,rfl,rfl,rfl,rfl,rfl,trivial⟩ Y Y Y Y Y Y Y λns hns=> ?_;obtain rfl:ns=[]:=DP hns;refine .B ?_;rw[hw1];have hb3: ∀k,cJ (eU ((lkA us (v:Int)).getD []) o2) k=true↔cJ o2 k=true∨∃c',cons[k]? =some c'/\(v:Int)∈usesR c':=λk=>by
       unfold cJ;rw[oM];by_cases hm:(k:Int)∈(lkA us (v:Int)).getD []
       ·rw[D4 hm];obtain⟨k',c',h3,h4,h5⟩:=(hlk _ _).1 hm;obtain rfl:k=k':=(by omega);exact⟨λ_=> .inr ⟨c',h3,h4⟩,λ_=>rfl⟩
       ·rw[D2 hm];exact⟨.inl,λh=>h.resolve_right λ⟨c',h3,h4⟩=>hm ((hlk _ _).2 ⟨k,c',h3,h4,rfl⟩)⟩
      have:=ih2 (v+1,eU ((lkA us (v:Int)).getD []) o2) ⟨by omega,m4 _ _ hnd,λk=>by
       rw[hb3 k,ho k];constructor
       ·rintro((h3|⟨w,c',h3,h4,h5⟩)|⟨c',h3,h4⟩);·exact .inl h3
        ·exact .inr ⟨w,c',by omega,h4,h5⟩
        ·exact .inr ⟨v,c',by omega,by rw[ea,eb];exact λe=>hab (D3 e),h3,h4⟩
       ·rintro(h3|⟨w,c',h3,h4,h5⟩);·exact .inl (.inl h3)
        ·by_cases e:w=v;·subst e;exact .inr ⟨c',h5⟩
         ·exact .inl (.inr ⟨w,c',by omega,h4,h5⟩)⟩ (by show _-_<_-_;omega)
      exact T.K this
    ·have h1:v=out.length:=(by simp at h1;omega);subst h1;refine .B ?_;have:=ih (now,o2) (hqs o2 ho hnd).1 (hqs o2 ho hnd).2;exact T.K this
def nH (k:Int):FuncId:=if k=1 then 133 else if k=2 then 134 else if k=3 then 135 else if k=4 then 136 else if k=5 then 137 else if k=6 then 138 else 139
theorem xS {d:aa}{c:Con}{R:Option aa}(h:Spec Tryz.prog (nH c.kind) false [aJ d,.agg (cC c)] (aX R)):Spec Tryz.prog 105 false [aJ d,.agg (cC c)] (aX R):=by
 refine Spec.body Tryz.func105 Y Y Y λw0 Z0=> ?_;unfold nH at h;refine .B ?_;refine T.cd Y (λh1=> ?_) (λh1=> ?_)
 ·have h1:c.kind=1:=h1;rw[D4 h1]at h;refine .B ?_;refine .D h ?_;exact⟨_,.o Y Y Y (λ_=> .inl Y) (by simp) (.v rfl rfl rfl (λ_=>rfl) .nil)⟩
 ·have h1: ¬c.kind=1:=h1;rw[D2 h1]at h;refine .B ?_;refine T.cd Y (λh1=> ?_) (λh1=> ?_)
  ·have h1:c.kind=2:=h1;rw[D4 h1]at h;refine .B ?_;refine .D h ?_;exact⟨_,.o Y Y Y (λ_=> .inl Y) (by simp) (.v rfl rfl rfl (λ_=>rfl) .nil)⟩
  ·have h1: ¬c.kind=2:=h1;rw[D2 h1]at h;refine .B ?_;refine T.cd Y (λh1=> ?_) (λh1=> ?_)
   ·have h1:c.kind=3:=h1;rw[D4 h1]at h;refine .B ?_;refine .D h ?_;exact⟨_,.o Y Y Y (λ_=> .inl Y) (by simp) (.v rfl rfl rfl (λ_=>rfl) .nil)⟩
   ·have h1: ¬c.kind=3:=h1;rw[D2 h1]at h;refine .B ?_;refine T.cd Y (λh1=> ?_) (λh1=> ?_)
    ·have h1:c.kind=4:=h1;rw[D4 h1]at h;refine .B ?_;refine .D h ?_;exact⟨_,.o Y Y Y (λ_=> .inl Y) (by simp) (.v rfl rfl rfl (λ_=>rfl) .nil)⟩
    ·have h1: ¬c.kind=4:=h1;rw[D2 h1]at h;refine .B ?_;refine T.cd Y (λh1=> ?_) (λh1=> ?_)
     ·have h1:c.kind=5:=h1;rw[D4 h1]at h;refine .B ?_;refine .D h ?_;exact⟨_,.o Y Y Y (λ_=> .inl Y) (by simp) (.v rfl rfl rfl (λ_=>rfl) .nil)⟩
     ·have h1: ¬c.kind=5:=h1;rw[D2 h1]at h;refine .B ?_;refine T.cd Y (λh1=> ?_) (λh1=> ?_)
      ·have h1:c.kind=6:=h1;rw[D4 h1]at h;refine .B ?_;refine .D h ?_;exact⟨_,.o Y Y Y (λ_=> .inl Y) (by simp) (.v rfl rfl rfl (λ_=>rfl) .nil)⟩
      ·have h1: ¬c.kind=6:=h1;rw[D2 h1]at h;refine .B ?_;refine .D h ?_;exact⟨_,.o Y Y Y (λ_=> .inl Y) (by simp) (.v rfl rfl rfl (λ_=>rfl) .nil)⟩
theorem fX {n:Nat}{d:aa}(gd:GoodD n d): ∀x∈d,x.length*64+1048576<=140737488355328:=λx hx=>by
 have:=gd.few.few x hx;have:=bH (gd.few.fine x hx).ok;omega
theorem r6 {d:aa}{c:Con}(gd:GoodD d.length d)(h:SumOk d c):Spec Tryz.prog 139 false [aJ d,.agg (cC c)] (aX (gS c d)):=by
 obtain⟨M,hM⟩:=gR h;exact ub d c h.fine (fX gd) _ M hM
theorem BN {d:aa}{c:Con}(hk:c.kind=1)(hr:rightR d c=true):c=BO c.vars/\c.vars.Nodup/\c.vars≠[]:=by
 obtain⟨kind,vars,coefs,op,rhs,rows,b⟩:=c;simp only at hk;subst hk;simp only[rightR,noneR,plainR,bareR,manyR,DJ,DN,D2 (by decide: ¬(1:Int)=0),D4]at hr;obtain⟨⟨h1,⟨⟨h2,h3⟩,h4⟩,h5⟩,h6,h7⟩:=hr;obtain rfl:=DP h1;obtain rfl:=DP h5;subst h2 h3 h4;exact⟨rfl,h7,Fm h6⟩
theorem Da {d:aa}{c:Con}(gd:GoodD d.length d)(hc:ConB c)(h:conR d c=0)(hk:c.kind=1):Spec Tryz.prog 133 false [aJ d,.agg (cC c)] (aX (ig d c.vars)):=by
 obtain⟨_,hv,hr,_⟩:=cQ hc h;obtain⟨e,h1,h2⟩:=BN hk hr;have a:=vu d c.vars gd.few ⟨h1,hv.2⟩ h2;rw[<-e]at a;exact a
theorem Cc {d:aa}{c:Con}(gd:GoodD d.length d)(h:ReifOk d c):Spec Tryz.prog 136 false [aJ d,.agg (cC c)] (aX (oA c d)):=by
 have hsm:=fX gd;have e:oA c d=tz d c (gS (bN c) d) (gS (bP (bN c)) d):=D4 h.truth;rw[e];exact wA d c h.sum.fine.in_ h.con h.b (λx hx=>by have:=hsm x hx;omega) _ _ (λ_ _ _ _=>r6 gd h.sum) (λ_ _ _ _ _=>r6 gd h.sumN)
theorem Cz {c:Con}(h:c.kind≠4):usesR c=aW c.vars:=by unfold usesR;rw[D2 h]
theorem pQ {d:aa}{c:Con}(gd:GoodD d.length d)(hc:ConB c)(h:conR d c=0)(hk:c.kind=5):Spec Tryz.prog 137 false [aJ d,.agg (cC c)] (aX (bL c d)):=by
 have hcl:=rt hc h hk;have hsm:=fX gd;have e:bL c d=jL d c:=by
  unfold bL;rw[D2 (by omega),D2 (by omega),D2 (by omega),D2 (by omega),Cz (by omega)];exact u5 hcl hk gd.few.fine
 rw[e];exact r7 d c (BR hcl gd.few.small λx hx=>by have:=hsm x hx;omega)
theorem CX {d:aa}{c:Con}(gd:GoodD d.length d)(hv:cN d c):Spec Tryz.prog 138 false [aJ d,.agg (cC c)] (aX (wE c d)):=by
 obtain⟨R,N,h1,_⟩:=qn (c:=c) (d:=d) hv gd.few.fine;have h2:=h1;rw[D2 gd.some']at h2;obtain rfl:=un h2;exact vT d c hv ⟨gd.few.small,λx hx=>by have:=fX gd x hx;omega⟩ _ N h1
theorem zj {d:aa}{vs:List Int}{i:Int}(h0:0<=i)(h1:i.toNat<(vs.drop 2).length):elemIn d vs i= !decide (elemM d vs i=[]):=by
 have h2:i.toNat+2<vs.length:=(by simp at h1;omega);unfold elemIn;rw[DD h0,DD h2];rfl
theorem wU (d:aa)(vs:List Int)(i:Int)(h2:2<=vs.length)(hv: ∀v∈vs,0<=v/\v.toNat<d.length)(hvl:vs.length*8<=140737488355328)(hx: ∀x∈d,x.length*32<=140737488355328):
  Spec Tryz.prog 188 false [.int .i64 i,.ptr [ao (vs.drop 2)],.ptr [aJ d],.ptr [.int .i64 (vs.getD 1 0)]] [.val (.bool (!elemIn d vs i))]:=by
 refine Spec.body Tryz.func188 Y Y Y λw0 Z0=> ?_;have hr:=hv (vs.getD 1 0) (cU (by omega));have hrow:(d.map cD)[(vs.getD 1 0).toNat]? =some (cD (domAt d (vs.getD 1 0))):=(by rw[DE,aq hr.2];rfl);have hM:elemM d vs i=bB (domAt d (vs.getD (i.toNat+2) 0)) (domAt d (vs.getD 1 0)):=rfl;have hIn:= @zj d vs i;have hno: ¬(0<=i/\i.toNat<(vs.drop 2).length)->elemIn d vs i=false:=λh=>by
  unfold elemIn;by_cases h0:0<=i
  ·have: ¬i.toNat+2<vs.length:=λe=>h ⟨h0,by simp;omega⟩;rw[DC this];simp
  ·rw[DC h0];rfl
 have hat: ∀h:i.toNat<(vs.drop 2).length,(vs.drop 2)[i.toNat]=vs.getD (i.toNat+2) 0:=λh=>(by rw[List.getElem_drop,aL (by simp at h;omega)];congr 1;omega);have hin: ∀h:i.toNat<(vs.drop 2).length,vs.getD (i.toNat+2) 0∈vs:=λh=>cU (by simp at h;omega);have hls:(vs.drop 2).length<=vs.length:=(by simp);generalize vs.drop 2=ls at*;generalize vs.getD 1 0=r at*;generalize elemIn d vs i=b at*;generalize elemM d vs i=M at*;refine .B ?_;refine J.g Y Y Y (λh3=> ?_) (λh3=> ?_)
 ·refine .B ?_;rw[hno (by omega)];exact r1
 ·refine .B ?_;refine J.g Y Y Y (λh4=> ?_) (λh4=> ?_)
  ·refine .B ?_;rw[hno (by simp at h4;omega)];exact r1
  ·have h4:i.toNat<ls.length:=(by simp at h4;omega);have hvi:=hv _ (hin h4);have hri:(d.map cD)[(vs.getD (i.toNat+2) 0).toNat]? =some (cD (domAt d (vs.getD (i.toNat+2) 0))):=(by rw[DE,aq hvi.2];rfl);have hli:(ls.map cI)[i.toNat]? =some (cI (vs.getD (i.toNat+2) 0)):=(by rw[DE,D1 h4,hat h4];rfl);have hx1:=hx _ (ah hvi.2);have hx2:=hx _ (ah hr.2);rw[hIn (by omega) h4];refine .B ?_;refine J.i Y Y Y Y Y Y Y Y Y (r:=cI (vs.getD (i.toNat+2) 0)) (by omega) hli Y ?_;refine .B ?_;refine J.i Y Y Y Y Y Y Y Y Y (r:=cD (domAt d (vs.getD (i.toNat+2) 0))) hvi.1 hri Y ?_;refine .B ?_;refine J.i Y Y Y Y Y Y Y Y Y (r:=cD (domAt d r)) hr.1 hrow Y ?_;refine .B ?_;refine J.cc Y Y Y Y Y (mq _ _ (by omega)) Y Y ?_;refine .B ?_;have e:decide (((((bB (domAt d (vs.getD (i.toNat+2) 0)) (domAt d r)).map cR).length:Nat):Int)=0)= !(!decide (M=[])):=(by rw[hM];simp);exact⟨_,.v Y Y (by rw[<-e]) (λ_=>rfl) .nil⟩
theorem uV {d:aa}{c:Con}(h: []∈d):rj d c=none:=D4 h
set_option maxHeartbeats 1000000 in
theorem uU {n:Nat}(d:aa)(c:Con)(gd: []∉d->GoodD n d)(fd:FewD d)(hc:ConB c)(hn:c.vars.Nodup)(h3:3<=c.vars.length)(hv: ∀v∈c.vars,0<=v/\v.toNat<d.length):
  Spec Tryz.prog 135 false [aJ d,.agg (cC c)] (aX (rj d c)):=by
 refine Spec.body Tryz.func135 Y Y Y λw0 Z0=> ?_;generalize hR:rj d c=R;have hdl:=fd.small;have hx: ∀x∈d,x.length<=4096:=λx hm=>(by have:=bH (fd.fine x hm).ok;have:=fd.few x hm;omega);obtain⟨h1,h2,h5,h4⟩:=hc;refine .B ?_;refine T.sub (Rel.unbx (s:=2) (λ_ h=>h) Y Y) ?_;refine T.sub (Rel.fp (s:=2) Y) ?_;refine T.sub (Rel.unbx (s:=3) (λ_ h=>h) Y Y) ?_;refine T.sub (Rel.own0 (s:=6) 54 1 Y) ?_;refine T.K (T.listI d (λpre=>[]∉pre) (λn pre post=>⟨[(2,.val false (.ptr [aJ d])),(3,.fptr false (cC c)),(6,.ref 0),(16,.val false (aJ d)),(17,.val true (.int .i64 (d.map cD).length)),(18,.val true (.int .i64 n))],[(0,some (.sl 54 1 true (pre.map cD)))],1⟩) (λ_ _ h=>h) (by simp) ?_ ?_)
 ·rintro n pre x post h hn hi ih;have hlt:=cg h hn;have hxl:=hx x (by rw[h];simp);refine .B ?_;refine T.ct2 Y (ce h hn) ?_;refine .B ?_;refine .F (r:=cD x) (aS h hn) ?_;refine T.cd Y (λh5=> ?_) (λh5=> ?_)
  ·have hxe:x=[]:=(by simp at h5;exact h5);have:R=none:=(by rw[<-hR,uV (by rw[h,hxe];simp)]);subst this;refine .B ?_;exact⟨_,.ownN Y (.v Y Y Y (λ_=>rfl) .nil)⟩
  ·have hxe:x≠[]:=λe=>h5 (by rw[e];rfl);refine .B ?_;refine .D (bR x (by omega)).frz ?_;refine .V ?_;refine J.aD Y Y Y Y Y Y Y Y Y Y Y Y Y Y Y Y Y Y Y (by omega) ?_;refine .B ?_;rw[ak hlt (by omega)];exact T.K (ih (by simp[hi,Ne.symm hxe]))
 ·intro hne;have gd:=gd hne;unfold rj at hR;rw[D2 hne]at hR;refine .B ?_;refine T.cf2 Y bA ?_;refine .B ?_;have hr0:(c.vars.map cI)[(0:Int).toNat]? =some (cI (c.vars.getD 0 0)):=(by rw[DE,D1 (show(0:Int).toNat<c.vars.length by simp;omega),aL (by omega)];rfl);have hr1:(c.vars.map cI)[(1:Int).toNat]? =some (cI (c.vars.getD 1 0)):=(by rw[DE,D1 (show(1:Int).toNat<c.vars.length by simp;omega),aL (by omega)];rfl);refine T.rdw 16 Y (by kernel_rfl) Y ?_;refine .B ?_;refine .F (r:=cI (c.vars.getD 0 0)) hr0 ?_;refine .F (r:=cI (c.vars.getD 1 0)) hr1 ?_;refine J.s3 (enc:=cI) (l:=c.vars) 2 Y Y Y Y Y Y Y Y Y (λ_=>rfl) Y (by omega) ?_;refine .B ?_;refine .L ?_;refine .B ?_;refine .L ?_;refine .B ?_;refine J.wd Y Y Y Y Y Y Y Y Y Y ?_;refine .B ?_;refine J.wd Y Y Y Y Y Y Y Y Y Y ?_;refine .B ?_;refine⟨by kernel_rfl,?_⟩;refine .B ?_;refine J.sub (Rel.unbx (s:=10) (λ_ h=>h) Y Y) ?_;refine J.sub (Rel.fp (s:=10) Y) ?_;refine J.sub (Rel.unbx (s:=11) (λ_ h=>h) Y Y) ?_;refine J.sub (Rel.fp (s:=11) Y) ?_;have hvi:=hv _ (cU (show 0<c.vars.length by omega));have hvr:=hv _ (cU (show 1<c.vars.length by omega));have hdi:=ah hvi.2;have hri:(d.map cD)[(c.vars.getD 0 0).toNat]? =some (cD (domAt d (c.vars.getD 0 0))):=(by rw[DE,aq hvi.2];rfl);refine J.i Y Y Y Y Y Y Y Y Y (r:=cD (domAt d (c.vars.getD 0 0))) hvi.1 hri Y ?_;refine .B ?_;have hvs:=iB (domAt d (c.vars.getD 0 0)) (fd.fine _ hdi).domB.1 (by have:=hx _ hdi;omega);rw[DS (show _<=4097 by have:=fd.few _ hdi;omega)]at hvs;refine .D hvs ?_;have hdel:=su (p:=λi=> !elemIn d c.vars i) (f:=188) [.ptr [ao (c.vars.drop 2)],.ptr [aJ d],.ptr [.int .i64 (c.vars.getD 1 0)]] (vals (domAt d (c.vars.getD 0 0))) (λi _=>wU d c.vars i (by omega) hv (by omega) λx hm=>by have:=hx x hm;omega) (by have:=fd.few _ hdi;omega);rw[show(vals (domAt d (c.vars.getD 0 0))).filter (λx=> !!elemIn d c.vars x)=elemPl d c.vars by simp[elemPl]]at hdel;refine J.cp (cs2:=[]) (qs:=[]) [] Y Y Y Y Y Y Y Y hdel trivial Y Y Y Y Y Y ?_;refine .B ?_;have hpin: ∀i∈elemPl d c.vars,0<=i/\i.toNat+2<c.vars.length:=λi hi=>by
   obtain⟨_,a1,a2,_⟩:=(iA gd c.vars i).1 hi;exact⟨a1,a2⟩
  have hpll:(elemPl d c.vars).length<=4096:=Du (EX _ _) (fd.few _ hdi);have hmay:=λl=>uW gd c.vars l;have hrr:(d.map cD)[(c.vars.getD 1 0).toNat]? =some (cD (domAt d (c.vars.getD 1 0))):=(by rw[DE,aq hvr.2];rfl);unfold sk at hR;generalize elemPl d c.vars=l at*;refine T.cd Y (λh5=> ?_) (λh5=> ?_)
  ·have h5:l=[]:=(by simp at h5;exact h5);rw[D4 h5]at hR;subst hR;refine .B ?_;exact⟨_,.ownN Y (.v Y Y Y (λ_=>rfl) .nil)⟩
  ·have h5: ¬l=[]:=λe=>h5 (by rw[e];rfl);rw[D2 h5]at hR;refine .B ?_;refine T.sub (Rel.own0 (s:=13) 53 2 Y) ?_;refine T.K (T.list l (λn pre post=>⟨[(2,.val false (.ptr [aJ d])),(6,.ref 0),(9,.val true (.int .i64 (c.vars.getD 0 0))),(10,.val true (.ptr [.int .i64 (c.vars.getD 1 0)])),(11,.val false (.ptr [ao (c.vars.drop 2)])),(12,.ref 1),(13,.ref 2),(52,.ref 1),(53,.val true (.int .i64 (l.map cI).length)),(54,.val true (.int .i64 n))],[(0,some (.sl 54 1 true (d.map cD))),(1,some (.sl 3 1 true (l.map cI))),(2,some (.sl 53 2 true ((elemMay d c.vars pre).map cR)))],3⟩) (λ_ _ h=>h) ?_ ?_)
   ·rintro n pre v post h hn ih;have hlt:=cg h hn;have hvv:=hpin v (by rw[h];simp);refine .B ?_;refine T.ct2 Y (ce h hn) ?_;refine .B ?_;refine J.io Y Y Y Y Y Y Y Y Y (by omega) (by simp;omega) Y ?_;refine .B ?_;refine J.lo Y Y Y Y Y Y (r:=cI v) (aS h hn) Y ?_;refine .B ?_;have hvin:=hv _ (cU hvv.2);have hls:((c.vars.drop 2).map cI)[v.toNat]? =some (cI (c.vars.getD (v.toNat+2) 0)):=by
     rw[DE,Ff,FC 2,D1 hvv.2,aL hvv.2];rfl
    have hrv:(d.map cD)[(c.vars.getD (v.toNat+2) 0).toNat]? =some (cD (domAt d (c.vars.getD (v.toNat+2) 0))):=(by rw[DE,aq hvin.2];rfl);have hx1:=hx _ (ah hvin.2);have hx2:=hx _ (ah hvr.2);have hmy:=hmay pre;have hme:=ee gd c.vars v;have hmr:=nR hme.1 λx hx=>(gd.few.at _).2.2 x ((hme.2 x).1 hx).1;have hml:(elemM d c.vars v).length<=4096:=by
     have a1:=bH hme.1;have a2:=bS (aF hme.1) λx hx=>((hme.2 x).1 hx).1;have:=(gd.few.at (c.vars.getD (v.toNat+2) 0)).1;omega
    have hnx:elemMay d c.vars (pre++[v])=o7 (elemMay d c.vars pre) (elemM d c.vars v):=(by simp[elemMay]);have hmeet:=mq (domAt d (c.vars.getD (v.toNat+2) 0)) (domAt d (c.vars.getD 1 0)) (by omega);have hjoin:=wW (elemMay d c.vars pre) (elemM d c.vars v) (by omega) λr hr=>by
     rcases DT.1 hr with hr|hr;·exact hmy.2 r hr
     ·exact hmr r hr
    rw[show bB (domAt d (c.vars.getD (v.toNat+2) 0)) (domAt d (c.vars.getD 1 0))=elemM d c.vars v from Y]at hmeet;rw[hnx]at ih;have hw1:=ak hlt (by omega);refine J.i Y Y Y Y Y Y Y Y Y (r:=cI (c.vars.getD (v.toNat+2) 0)) (by omega) hls Y ?_;refine .B ?_;refine J.i Y Y Y Y Y Y Y Y Y (r:=cD (domAt d (c.vars.getD (v.toNat+2) 0))) hvin.1 hrv Y ?_;refine .B ?_;refine J.i Y Y Y Y Y Y Y Y Y (r:=cD (domAt d (c.vars.getD 1 0))) hvr.1 hrr Y ?_;refine .B ?_;refine .D hmeet ?_;refine .D hjoin ?_;rw[hw1];exact T.K ih
   ·have hof:=(kC l (by omega)).frz;have hml:=(hmay l).1;generalize elemMay d c.vars l=may at*;generalize domOfP l=of at*;refine .B ?_;refine T.cf2 Y bA ?_;refine .B ?_;refine .D hof ?_;refine J.io Y Y Y Y Y Y Y Y Y hvi.1 (by simp;exact hvi.2) Y ?_;refine J.w1 Y Y Y Y Y Y Y Y Y Y Y (enc:=cD) (z:=of.1) (λ_=>rfl) (by simp;exact hvi.2) ?_;refine J.sub (Rel.frz (s:=13) (λ_ h=>h) Y Y) ?_;refine .B ?_;refine J.io Y Y Y Y Y Y Y Y Y hvr.1 (by simp;exact hvr.2) Y ?_;refine J.w1 Y Y Y Y Y Y Y Y Y Y Y (enc:=cD) (z:=may) (λ_=>rfl) (by simp;exact hvr.2) ?_;refine .B ?_;refine T.cd Y (λh6=> ?_) (λh6=> ?_)
    ·have h6:l.length=1:=(by simp at h6;omega);have hl0:(l.map cI)[(0:Int).toNat]? =some (cI (l.getD 0 0)):=(by rw[DE,D1 (show(0:Int).toNat<l.length by simp;omega),aL (by omega)];rfl);have hm0:l.getD 0 0∈l:=(by rw[aL (by omega)];exact D8 _);obtain⟨b1,b2⟩:=hpin _ hm0;have hvin:=hv _ (cU b2);rw[D4 h6]at hR;generalize l.getD 0 0=i0 at*;have hls:((c.vars.drop 2).map cI)[i0.toNat]? =some (cI (c.vars.getD (i0.toNat+2) 0)):=by
      rw[DE,Ff,FC 2,D1 b2,aL b2];rfl
     subst hR;refine .B ?_;refine T.rdm 10 Y (by kernel_rfl) Y ?_;refine .B ?_;refine J.io Y Y Y Y Y Y Y Y Y (by omega) (by simp;omega) Y ?_;refine .B ?_;refine J.lo Y Y Y Y Y Y (r:=cI i0) hl0 Y ?_;refine .B ?_;refine J.i Y Y Y Y Y Y Y Y Y (r:=cI (c.vars.getD (i0.toNat+2) 0)) b1 hls Y ?_;refine .B ?_;refine .D (bR may (by omega)).frz ?_;refine J.io Y Y Y Y Y Y Y Y Y hvin.1 (by simp;exact hvin.2) Y ?_;refine .B ?_;refine J.w1 Y Y Y Y Y Y Y Y Y Y Y (enc:=cD) (z:=may) (λ_=>rfl) (by simp;exact hvin.2) ?_;refine .B ?_;exact⟨_,.o Y Y Y (λ_=> .inl Y) (by simp) (.v rfl rfl rfl (λ_=>rfl) .nil)⟩
    ·have h6: ¬l.length=1:=(by simp at h6;omega);rw[D2 h6]at hR;subst hR;refine .B ?_;exact⟨_,.o Y Y Y (λ_=> .inl Y) (by simp) (.v rfl rfl rfl (λ_=>rfl) .nil)⟩
theorem s9 {α:Type}{l:List α}{i:Nat}(p:α->Bool)(h:i<l.length):(l.take (i+1)).filter p=(l.take i).filter p++(if p l[i]=true then [l[i]]else []):=by
 rw[DB h,Fi];congr 1;by_cases hp:p l[i]=true;·rw[D4 hp,FH hp];rfl
 ·rw[D2 hp,FZ hp];rfl
theorem vz (d:aa)(c:Con)(hdl:d.length*24<=140737488355328)(hx: ∀x∈d,x.length*16<=140737488355328)(hc:ConB c)(hv: ∀v∈c.vars,0<=v/\v.toNat<d.length)(hr: ∀r∈c.rows,r.length=c.vars.length):
  Spec Tryz.prog 186 false [aJ d,.agg (cC c)] [.own 24 1 ((rowsP d c).map cL)]:=by
 refine Spec.body Tryz.func186 Y Y Y λw0 Z0=> ?_;obtain⟨h1,h2,h3,h4⟩:=hc;refine .B ?_;refine T.scope (λ_ _ h=>h) ?_;refine .B ?_;refine T.sub (Rel.own0 (s:=5) 24 1 Y) ?_;refine T.K (T.ind (λi:Nat=>⟨[(0,.val false (aJ d)),(3,.optr 0 0 0 0),(5,.ref 1),(11,.val false (bT c.rows)),(12,.val true (.int .i64 (c.rows.map cL).length)),(13,.val true (.int .i64 i))],[(0,some (.box false (cC c))),(1,some (.sl 24 1 true (((c.rows.take i).filter (kW d c.vars)).map cL)))],2⟩) (λi=>i<=c.rows.length) (λi=>c.rows.length-i) 0 (by simp) (λ_ _ h=>h) ?_);rintro i hi ih;refine .B ?_;refine T.cd Y (λh5=> ?_) (λh5=> ?_)
 ·have h5:i<c.rows.length:=(by simpa using h5);have hrl:=hr _ (D8 h5);have hr8:=h4 _ (D8 h5);have hfl:((c.rows.take i).filter (kW d c.vars)).length<=i:=Du (EX _ _) (by simp;omega);have ih1:=ih (i+1) (by omega) (by omega);rw[s9 _ h5]at ih1;have hrow:(c.rows.map cL)[((i:Nat):Int).toNat]? =some (cL c.rows[i]):=(by simp[h5]);generalize (c.rows.take i).filter (kW d c.vars)=out at*;generalize c.rows[i]=r at*;have hw1:IntKind.i64.wrap ((i:Int)+1)=((i+1:Nat):Int):=ak (l:=c.rows.length) h5 (by omega);refine .B ?_;refine .F (r:=cL r) hrow ?_;refine T.K (T.ind (λk:Nat=>⟨[(0,.val false (aJ d)),(3,.optr 0 0 0 0),(5,.ref 1),(7,.val false (ao r)),(11,.val false (bT c.rows)),(12,.val true (.int .i64 (c.rows.map cL).length)),(13,.val true (.int .i64 i)),(18,.val false (ao c.vars)),(19,.val true (.int .i64 (c.vars.map cI).length)),(20,.val true (.int .i64 k))],[(0,some (.box false (cC c))),(1,some (.sl 24 1 true (out.map cL)))],2⟩)
   (λk=>k<=c.vars.length/\∀j,j<k->hasV (domAt d (c.vars.getD j 0)) (r.getD j 0)=true) (λk=>c.vars.length-k) 0 ⟨by simp,λj hj=>DU hj (EO j)⟩ (λ_ _ h=>h) ?_)
  rintro k ⟨hk,hb⟩ ih2;refine .B ?_;refine T.cd Y (λh6=> ?_) (λh6=> ?_)
  ·have h6:k<c.vars.length:=(by simpa using h6);have h7:k<r.length:=(by omega);have hvk:=hv _ (D8 h6);have hdx:=hx _ (ah hvk.2);have hrd:(d.map cD)[c.vars[k].toNat]? =some (cD (domAt d c.vars[k])):=(by simp[aq hvk.2]);have hg1:c.vars.getD k 0=c.vars[k]:=aL h6;have hg2:r.getD k 0=r[k]:=aL h7;have hkv:(c.vars.map cI)[((k:Nat):Int).toNat]? =some (cI c.vars[k]):=aO h6;have hkr:(r.map cI)[((k:Nat):Int).toNat]? =some (cI r[k]):=aO h7;have hno:hasV (domAt d c.vars[k]) r[k]=false->kW d c.vars r=false:=λhf=>by
    cases hh:kW d c.vars r with
    |false=>rfl
    |true=>
     have:=(rE (p:=λv x=>hasV (domAt d v) x) hrl).1 hh k c.vars[k] (D1 h6);rw[hg2]at this;rw[hf]at this;cases this
   have hyes:hasV (domAt d c.vars[k]) r[k]=true->∀j,j<k+1->hasV (domAt d (c.vars.getD j 0)) (r.getD j 0)=true:=λhf j hj=>by
    by_cases e:j=k;·rw[e,hg1,hg2];exact hf
    ·exact hb j (by omega)
   generalize c.vars[k]=v at*;generalize r[k]=x at*;refine .B ?_;refine .F (r:=cI v) hkv ?_;refine J.i Y Y Y Y Y Y Y Y Y (r:=cD (domAt d v)) hvk.1 hrd Y ?_;refine .B ?_;refine .F (r:=cI x) hkr ?_;refine .C (jJ (domAt d v) x hdx) ?_;cases hh:hasV (domAt d v) x with
   |false=>
    refine .B ?_;refine T.ct Y ?_;refine .B ?_;rw[hno hh]at ih1;simp only[EF,if_false,Ex]at ih1;rw[hw1];exact T.K ih1
   |true=>
    refine .B ?_;refine T.cf Y ?_;refine .B ?_;rw[ak (l:=c.vars.length) h6 (by omega)];exact T.K (ih2 (k+1) ⟨by omega,hyes hh⟩ (by omega))
  ·have h6:k=c.vars.length:=(by simp at h6;omega);subst h6;have hin:kW d c.vars r=true:=(rE (p:=λv x=>hasV (domAt d v) x) hrl).2 λj v hj=>by
    have hjl:=(D5.1 hj).1;have:=hb j hjl;rw[D0,hj]at this;exact this
   rw[hin]at ih1;simp only[if_true]at ih1;refine .B ?_;refine .D (dU r hr8).frz ?_;refine .Z ?_;refine J.a1 (enc:=cL) (x:=r) (B:=24) Y Y Y Y Y Y Y Y Y Y Y Y Y Y Y Y Y Y Y Y (by omega) ?_;refine .B ?_;rw[hw1];exact T.K ih1
 ·have h5:i=c.rows.length:=(by simp at h5;omega);subst h5;rw[E8];refine .B ?_;exact⟨_,.o Y Y Y (λ_=> .inl Y) (by simp) .nil⟩
theorem vC {d:aa}{c:Con}(h: []∈d):tabO d c=none:=D4 h
theorem s7 (d:aa)(c:Con)(hdl:d.length*24<=140737488355328)(hx: ∀x∈d,(x.length+1)*16<=140737488355328)(hc:ConB c)(hv: ∀v∈c.vars,0<=v/\v.toNat<d.length)(hr: ∀r∈c.rows,r.length=c.vars.length)(hfew:c.rows.length<=1024):
  Spec Tryz.prog 134 false [aJ d,.agg (cC c)] (aX (tabO d c)):=by
 refine Spec.body Tryz.func134 Y Y Y λw0 Z0=> ?_;generalize hR:tabO d c=R;have hcb:=hc;obtain⟨h1,h2,h3,h4⟩:=hc;refine .B ?_;refine T.sub (Rel.own0 (s:=6) 54 1 Y) ?_;refine T.K (T.listI d (λpre=>[]∉pre) (λn pre post=>⟨[(0,.val false (aJ d)),(3,.optr 0 0 0 0),(6,.ref 1),(15,.val false (aJ d)),(16,.val true (.int .i64 (d.map cD).length)),(17,.val true (.int .i64 n))],[(0,some (.box false (cC c))),(1,some (.sl 54 1 true (pre.map cD)))],2⟩) (λ_ _ h=>h) (by simp) ?_ ?_)
 ·rintro n pre x post h hn hi ih;have hlt:=cg h hn;have hxl:=hx x (by rw[h];simp);refine .B ?_;refine T.ct2 Y (ce h hn) ?_;refine .B ?_;refine .F (r:=cD x) (aS h hn) ?_;refine T.cd Y (λh5=> ?_) (λh5=> ?_)
  ·have hxe:x=[]:=(by simp at h5;exact h5);have:R=none:=(by rw[<-hR,vC (by rw[h,hxe];simp)]);subst this;refine .B ?_;exact⟨_,.ownN Y (.v Y Y Y (λ_=>rfl) .nil)⟩
  ·have hxe:x≠[]:=λe=>h5 (by rw[e];rfl);refine .B ?_;refine .D (bR x (by omega)).frz ?_;refine .V ?_;refine J.aD Y Y Y Y Y Y Y Y Y Y Y Y Y Y Y Y Y Y Y (by omega) ?_;refine .B ?_;rw[ak hlt (by omega)];exact T.K (ih (by simp[hi,Ne.symm hxe]))
 ·intro hne;unfold tabO at hR;rw[D2 hne]at hR;refine .B ?_;refine T.cf2 Y bA ?_;refine .B ?_;refine .C (vz d c hdl (λx hm=>by have:=hx x hm;omega) hcb hv hr).frz ?_;have hrl:(rowsP d c).length<=1024:=Du (EX _ _) hfew;have hrr: ∀r∈rowsP d c,r.length=c.vars.length:=λr hm=>hr r (EH.1 hm).1;generalize rowsP d c=rows at*;refine .B ?_;refine T.cd Y (λh5=> ?_) (λh5=> ?_)
  ·have h5:rows=[]:=(by simp at h5;exact h5);rw[D4 h5]at hR;subst hR;refine .B ?_;exact⟨_,.ownN Y (.v Y Y Y (λ_=>rfl) .nil)⟩
  ·have h5: ¬rows=[]:=λe=>h5 (by rw[e];rfl);rw[D2 h5]at hR;refine .B ?_;refine T.K (T.ind (λs:Nat×aa=>⟨[(6,.ref 0),(9,.val true (bT rows)),(37,.val false (ao c.vars)),(38,.val true (.int .i64 (c.vars.map cI).length)),(39,.val true (.int .i64 s.1))],[(0,some (.sl 54 1 true (s.2.map cD)))],1⟩)
    (λs=>s.1<=c.vars.length/\s.2.length=d.length/\some (gH rows (c.vars.drop s.1) s.1 s.2)=R) (λs=>c.vars.length-s.1) (0,d) ⟨by simp,rfl,hR⟩ (λ_ _ h=>h) ?_)
   rintro⟨i,out⟩ ⟨hi,hol,hR⟩ ih;simp only at hi hol hR;dsimp only;refine .B ?_;refine T.cd Y (λh6=> ?_) (λh6=> ?_)
   ·have h6:i<c.vars.length:=(by simpa using h6);have hvi:=hv _ (D8 h6);have hkv:(c.vars.map cI)[((i:Nat):Int).toNat]? =some (cI c.vars[i]):=aO h6;rw[DQ h6,gH]at hR;generalize c.vars[i]=v at*;refine .B ?_;refine .F (r:=cI v) hkv ?_;refine T.sub (Rel.own0 (s:=12) 3 1 Y) ?_;refine T.K (T.ind (λk:Nat=>⟨[(6,.ref 0),(9,.val true (bT rows)),(10,.val true (.int .i64 i)),(11,.val true (.int .i64 v)),(12,.ref 1),(37,.val false (ao c.vars)),(38,.val true (.int .i64 (c.vars.map cI).length)),(39,.val true (.int .i64 i)),(44,.val true (bT rows)),(45,.val true (.int .i64 (rows.map cL).length)),(46,.val true (.int .i64 k))],[(0,some (.sl 54 1 true (out.map cD))),(1,some (.sl 3 1 true ((gX (rows.take k) i).map cI)))],2⟩)
     (λk=>k<=rows.length) (λk=>rows.length-k) 0 (by simp) (λ_ _ h=>h) ?_)
    rintro k hk ih2;refine .B ?_;refine T.cd Y (λh7=> ?_) (λh7=> ?_)
    ·have h7:k<rows.length:=(by simpa using h7);have hrk:=hrr _ (D8 h7);have hrow:(rows.map cL)[((k:Nat):Int).toNat]? =some (cL rows[k]):=(by simp[h7]);have ih3:=ih2 (k+1) (by omega) (by omega);rw[DB h7,show gX (rows.take k++[rows[k]]) i=gX (rows.take k) i++[rows[k].getD i 0]from EC ..]at ih3;have hcl:(gX (rows.take k) i).length<=1024:=(by simp[gX];omega);generalize rows[k]=r at*;have h8:i<r.length:=(by omega);refine .B ?_;refine .F (r:=cL r) hrow ?_;refine .F (r:=cI r[i]) (aO h8) ?_;refine .V ?_;refine J.aI Y Y Y Y Y Y Y Y Y Y Y Y Y Y Y Y Y Y Y (l:=gX (rows.take k) i) (x:=r[i]) (by omega) ?_;refine .B ?_;rw[ak (l:=rows.length) h7 (by omega)];rw[show r.getD i 0=r[i]from aL h8]at ih3;exact T.K ih3
    ·have h7:k=rows.length:=(by simp at h7;omega);subst h7;rw[E8];have hcl:(gX rows i).length<=1024:=(by simp[gX];omega);have hof:=(kC (gX rows i) (by omega)).frz;have ih3:=ih (i+1,out.set v.toNat (domOfP (gX rows i)).1) ⟨by omega,by rw[E7];exact hol,hR⟩ (by show _-_<_-_;omega);generalize domOfP (gX rows i)=of at*;refine .B ?_;refine .D hof ?_;refine J.io Y Y Y Y Y Y Y Y Y hvi.1 (by simp[hol];exact hvi.2) Y ?_;refine J.w1 Y Y Y Y Y Y Y Y Y Y Y (enc:=cD) (z:=of.1) (λ_=>rfl) (by omega) ?_;refine .B ?_;rw[ak (l:=c.vars.length) h6 (by omega)];exact T.K ih3
   ·have h6:i=c.vars.length:=(by simp at h6;omega);subst h6;rw[EY,gH]at hR;subst hR;refine .B ?_;exact⟨_,.o Y Y Y (λ_=> .inl Y) (by simp) (.v rfl rfl rfl (λ_=>rfl) .nil)⟩
theorem Bl {d:aa}{c:Con}(gd:GoodD d.length d)(hc:ConB c)(h:conR d c=0)(hp:prodD d<=1048576):Spec Tryz.prog 105 false [aJ d,.agg (cC c)] (aX (bL c d)):=by
 obtain⟨hk0,hv,hr,hin⟩:=cQ hc h;have hsm:=fX gd
 suffices hh:Spec Tryz.prog (nH c.kind) false [aJ d,.agg (cC c)] (aX (bL c d))from xS hh
 have hcs:c.kind=0∨c.kind=1∨c.kind=2∨c.kind=3∨c.kind=4∨c.kind=5∨c.kind=6:=(by omega);rcases hcs with hk|hk|hk|hk|hk|hk|hk
 ·have e:bL c d=gS c d:=(by unfold bL;rw[D4 hk]);rw[e,hk];exact r6 gd (rM hc h hk gd.few.fine gd.few.small)
 ·have e:bL c d=ig d c.vars:=(by unfold bL;rw[D2 (by omega),D4 hk]);rw[e,hk];exact Da gd hc h hk
 ·have hrr:(∀r∈c.rows,r.length=c.vars.length)/\c.rows.length<=1024:=by
   unfold rightR at hr;rw[D2 (by omega),D2 (by omega),D4 hk]at hr;simp only[manyR,kU,DJ,DN,DI]at hr;refine⟨λr hrm=> ?_,hr.2.2⟩;have:=hr.2.1 r hrm;simp only[ez,DJ,DN]at this;exact this.1
  have hp2:=s7 d c gd.few.small (λx hx=>by have:=hsm x hx;omega) hc hv.2 hrr.1 hrr.2;rw[<-zF gd hc h hk]at hp2;rw[hk];exact hp2
 ·have hrr:c.vars.Nodup/\3<=c.vars.length:=by
   unfold rightR at hr;rw[D2 (by omega),D2 (by omega),D2 (by omega),D4 hk]at hr;simp only[manyR,DJ,DN]at hr;exact⟨hr.1.2.2,hr.2⟩
  have hp2:=uU (n:=d.length) d c (λ_=>gd) gd.few hc hrr.1 hrr.2 hv.2;rw[<-zi gd hc h hk]at hp2;rw[hk];exact hp2
 ·have e:bL c d=oA c d:=(by unfold bL;rw[D2 (by omega),D2 (by omega),D4 hk]);rw[e,hk];exact Cc gd (xx hc h hk gd.few.fine gd.few.small)
 ·have hp2:=pQ gd hc h hk;rw[hk];exact hp2
 ·have e:bL c d=wE c d:=(by unfold bL;rw[D2 (by omega),D2 (by omega),D2 (by omega),D4 hk]);rw[e,hk];exact CX gd hv
theorem Cf {d:aa}{c:Con}(gd:GoodD d.length d)(hc:ConB c)(h:RightC d c)(hp:prodD d<=1048576):Spec Tryz.prog 105 false [aJ d,.agg (cC c)] (aX (bL c d)):=by
 rcases h with h|⟨hk,hs⟩;·exact Bl gd hc h hp
 ·have e:bL c d=gS c d:=by unfold bL;rw[D4 hk]
  suffices hh:Spec Tryz.prog (nH c.kind) false [aJ d,.agg (cC c)] (aX (bL c d))from xS hh
  rw[e,hk];exact r6 gd hs
theorem CS {d:List (Int×Int)}(h: ∀i,i<d.length->(d.getD i (0,0)).1<=(d.getD i (0,0)).2/\(0<i->(d.getD (i-1) (0,0)).2+2<=(d.getD i (0,0)).1)):aA d:=by
 induction d with
 |nil=>exact⟨by simp,.nil⟩
 |cons x d ih=>
  have h0:=(h 0 (by simp)).1;have h1:=ih λi hi=>by
   obtain⟨a,b⟩:=h (i+1) (by simp;omega);refine⟨a,λhp=> ?_⟩;obtain⟨j,rfl⟩: ∃j,i=j+1:=⟨i-1,by omega⟩;exact b (by omega)
  refine⟨λr hr=> ?_,Dm.2 ⟨λs hs=> ?_,h1.2⟩⟩
  ·rcases DO.1 hr with rfl|hr;·exact h0
   ·exact h1.1 r hr
  ·cases d with
   |nil=>cases hs
   |cons y d=>
    have h2:=(h 1 (by simp)).2 (by omega);have h2:x.2+2<=y.1:=h2;rcases DO.1 hs with rfl|hs;·exact h2
    ·have:=(Dm.1 h1.2).1 s hs;have:=h1.1 y (.head _);omega
theorem ti {d:List (Int×Int)}(h:aA d):sizeI d=((vals d).length:Nat):=by
 induction d with
 |nil=>rfl
 |cons r d ih=>
  have h0:=h.1 r (.head _);have e:sizeI (r::d)=(r.2-r.1+1)+sizeI d:=rfl;rw[e,ih h.tail,bj,DX,show(rng r.1 r.2).length=(r.2+1-r.1).toNat by simp[rng]];omega
theorem sG {d:List (Int×Int)}(h:chkR d=0):Fine d/\(vals d).length<=4096:=by
 unfold chkR at h;split at h;·cases h
 ·rename_i h1;split at h;·cases h
  ·rename_i h2;have hb: ∀i,i<d.length->badR d i=false:=λi hi=>by
    cases e:badR d i with
    |false=>rfl
    |true=>exact DU (EZ.2 ⟨i,DM.2 hi,e⟩) h1
   have hok:aA d:=CS λi hi=>by
    have:=hb i hi;unfold badR at this;simp only[GE,FT,Bool.and_eq_false_iff,decide_eq_false_iff_not]at this;obtain⟨_,_,h5,h6⟩:=this;refine⟨by omega,λhp=> ?_⟩;rcases h6 with h6|h6<;>omega
   have hs:=ti hok;have hln:(vals d).length<=4096:=(by omega);refine⟨⟨hok,λv hv=> ?_,by omega⟩,hln⟩;obtain⟨r,hr,h3,h4⟩:=aT.1 hv;obtain⟨i,hi⟩:=DH hr;have hil:=(D5.1 hi).1;have:=hb i hil;unfold badR at this;rw[D0,hi]at this;simp only[Ed,GE,FT,aH,DN]at this;omega
structure Goal where
 kind:Int
 vars:List Int
 coefs:List Int
structure Mod where
 vars:List (ByteArray×List (Int×Int))
 cons:List Con
 goal:Goal
def cV (v:ByteArray×List (Int×Int)):List PV:=[.str v.1,dm v.2]
def cG (g:Goal):List PV:=[.int .i64 g.kind,ao g.vars,ao g.coefs]
def cM (m:Mod):List PV:=[.sl (m.vars.map cV),bF m.cons,.int .i64 m.goal.kind,ao m.goal.vars,ao m.goal.coefs]
def domsM (m:Mod):aa:=m.vars.map (·.2)
structure ModB (m:Mod):Prop where
 vl:m.vars.length<=1024
 vn: ∀v∈m.vars,v.1.size<=1024/\v.2.length<=1024
 cl:m.cons.length<=1024
 cb: ∀c∈m.cons,c.vars.length<=1024/\c.coefs.length<=1024/\c.rows.length<=1024/\∀r∈c.rows,r.length<=1024
 gl:m.goal.vars.length<=1024/\m.goal.coefs.length<=1024
theorem oB (m:Mod)(hm:ModB m):Spec Tryz.prog 29 false [.agg (cM m)] [.own 54 1 ((domsM m).map cD)]:=by
 refine Spec.body Tryz.func29 Y Y Y λw0 Z0=> ?_;obtain⟨h1,h2,_,_,_⟩:=hm;refine .B ?_;refine .Q ?_;refine T.sub (Rel.wk (o:=1) Y) ?_;refine T.K (T.ind (λi:Nat=>⟨[(1,.optr 0 0 0 0),(3,.ref 1),(4,.val true (.int .i64 i))],[(0,some (.box false (cM m))),(1,some (.sl 54 1 false (((domsM m).take i).map cD)))],2⟩) (λi=>i<=m.vars.length) (λi=>m.vars.length-i) 0 (Dz _) (λ_ _ h=>h) ?_);rintro i hi ih;refine .B ?_;refine T.cd Y (λh5=> ?_) (λh5=> ?_)
 ·have h5:i<m.vars.length:=(by simpa using h5);have hrow:(m.vars.map cV)[((i:Nat):Int).toNat]? =some (cV m.vars[i]):=(by simp[h5]);have hv:=h2 _ (D8 h5);have htk:(domsM m).take (i+1)=(domsM m).take i++[m.vars[i].2]:=by
   rw[DB (by simpa[domsM]using h5)];simp[domsM]
  have hl:=List.length_take_le i (domsM m);have ih1:=ih (i+1) (by omega) (by omega);rw[htk]at ih1;generalize (domsM m).take i=out at*;generalize m.vars[i]=v at*;refine .B ?_;refine .F (r:=cV v) hrow ?_;refine .V ?_;refine J.aD Y Y Y Y Y Y Y Y Y Y Y Y Y Y Y Y Y Y Y (by omega) ?_;refine .B ?_;rw[ak (l:=m.vars.length) h5 (by omega)];exact T.K ih1
 ·have h5:i=m.vars.length:=(by simp at h5;omega);subst h5;rw[DS (by simp[domsM])];have hli:=wD (domsM m) (by simp[domsM];omega) λx hx=>by
   obtain⟨v,hv,rfl⟩:=DF.1 hx;have:=h2 v hv;omega
  generalize domsM m=d at*;refine .B ?_;refine .D hli ?_;exact⟨_,.o Y Y Y (λ_=> .inl Y) (by simp) .nil⟩
end Go.Proofs.YtopcjbahjjhdmaaGreat
