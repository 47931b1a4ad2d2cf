/- The texts PvE, PvF, FvK, PvG, FvL, FvM, PuT, PvD, FvA, FvC, PvC, FvD, FvE, LiH, FvF, PuE, FvG, FvN, FvI, FvJ, FvO, FvP, FvS, FvT, FvU of the workplace, joined. -/
import Derived.Test.YtopcjbahjjhdmaaGreatB7
import Derived.Shelf.SlSortCmp.NoneTotal
namespace Go.Proofs.YtopcjbahjjhdmaaGreat
open Go Go.RowKit
set_option linter.unusedVariables false
set_option linter.unusedSimpArgs false
def ul:Int→List Int→List Int
 |_,[]=>[]
 |x,y::l=>if y=x then ul x l else y::ul y l
theorem rK: ∀(l:List Int) (x:Int),(x::l).Pairwise (· ≤ ·)→Up (x::ul x l)∧∀z,z∈x::ul x l↔z∈x::l
 | [],x,_=>⟨List.pairwise_singleton _ _,fun z=>Iff.rfl⟩
 |y::l,x,h=>by
  have h1:=List.pairwise_cons.1 h
  have hxy:=h1.1 y (.head _)
  rw[ul]
  by_cases e:y=x
  ·subst e
   rw[if_pos rfl]
   obtain⟨a,b⟩:=rK l y h1.2
   refine⟨a,fun z=> ?_⟩
   rw[b z]
   simp
  ·rw[if_neg e]
   obtain⟨a,b⟩:=rK l y h1.2
   refine⟨List.pairwise_cons.2 ⟨fun z hz=> ?_,a⟩,fun z=> ?_⟩
   ·rcases List.mem_cons.1 hz with rfl|hz
    ·omega
    ·have:=(List.pairwise_cons.1 a).1 z hz;omega
   ·rw[List.mem_cons,b z,List.mem_cons (a:=z) (b:=x)]
theorem jc: ∀(l:List Int) (o:List (Int×Int)) (lo x:Int),(x::l).Pairwise (· ≤ ·)→l.foldl fV (o++[(lo,x)])=o++dI lo x (ul x l)
 | [],o,lo,x,_=>rfl
 |y::l,o,lo,x,h=>by
  have h1:=List.pairwise_cons.1 h
  have hxy:=h1.1 y (.head _)
  rw[List.foldl_cons,gU,ul]
  by_cases e:y=x
  ·subst e
   rw[if_pos (Int.le_refl _),if_pos rfl]
   exact jc l o lo y h1.2
  ·rw[if_neg (by omega),if_neg e,dI]
   by_cases e2:y=x+1
   ·rw[if_pos (by omega),if_pos e2]
    exact jc l o lo y h1.2
   ·rw[if_neg (by omega),if_neg e2,jc l (o++[(lo,x)]) y y h1.2,List.append_assoc];rfl
theorem uS (l:List Int):(cN l).Pairwise (· ≤ ·):=by
 have:=List.pairwise_mergeSort (le:=fun x y:Int=>decide (x≤y)) (fun a b c h1 h2=>by simp at h1 h2⊢;omega) (fun a b=>by simp;omega) l
 exact this.imp fun h=>by simpa using h
theorem vc (l:List Int):packG (cN l)=cW (aT l):=by
 have hs:=uS l
 have hm: ∀z,z∈cN l↔z∈l:=fun z=>(List.mergeSort_perm l _).mem_iff
 cases h:cN l with
 |nil=>
  have:aT l=[]:=List.eq_nil_iff_forall_not_mem.2 fun z hz=>by
   have:=(hm z).2 ((bH z l).1 hz)
   rw[h]at this;cases this
  rw[this];rfl
 |cons x t=>
  rw[h]at hs
  obtain⟨a,b⟩:=rK t x hs
  have e:aT l=x::ul x t:=dP (bW l) a fun z=>by rw[bH,b z,←h,hm]
  rw[e]
  show t.foldl fV (fV [] x)=_
  rw[pP]
  exact jc t [] x x hs
theorem vV {l:List Int}(hv: ∀v∈l,-1048576≤v∧v≤1048576)(hn:l.length≤4096):domOfP l=(cW (aT l),0):=by
 have hv2: ∀v∈aT l,-1048576≤v∧v≤1048576:=fun v h=>hv v ((bH v l).1 h)
 have hln:=e6 l
 have hf:Fine (cW (aT l)):=jY (bW l) hv2 (by omega)
 unfold domOfP
 rw[vc,nC hf,bG (bW l),if_pos (List.all_eq_true.2 fun v hm=>by simpa[aG]using hv v hm),if_neg (by omega)]
def kC (d:aa)(vars r:List Int):Bool:=(vars.zip r).all fun p=>hasV (domAt d p.1) p.2
def rowsP (d:aa)(c:Con):List (List Int):=c.rows.filter (kC d c.vars)
def gJ (rows:List (List Int))(i:Nat):List Int:=rows.map fun r=>r.getD i 0
def gr (rows:List (List Int)):List Int→Nat→aa→aa
 | [],_,out=>out
 |v::vs,i,out=>gr rows vs (i+1) (out.set v.toNat (domOfP (gJ rows i)).1)
def tabO (d:aa)(c:Con):Option aa:=if []∈d then none else if rowsP d c=[]then none else some (gr (rowsP d c) c.vars 0 d)
theorem pB (rows:List (List Int)): ∀(vs:List Int) (i:Nat) (out:aa),(gr rows vs i out).length=out.length
 | [],_,_=>rfl
 |v::vs,i,out=>by rw[gr,pB rows vs];simp
theorem sh (rows:List (List Int)): ∀(vs:List Int) (i:Nat) (out:aa),vs.Nodup→(∀v∈vs,0≤v∧v.toNat<out.length)→∀k:Nat,
  ((k:Int)∉vs→(gr rows vs i out)[k]? =out[k]?)∧∀j,vs[j]? =some (k:Int)→(gr rows vs i out)[k]? =some (domOfP (gJ rows (i+j))).1
 | [],i,out,_,_,k=>⟨fun _=>rfl,fun j hj=>by simp at hj⟩
 |v::vs,i,out,hn,h0,k=>by
  have hn2:=List.nodup_cons.1 hn
  have hv:=h0 v (.head _)
  obtain⟨h1,h2⟩:=sh rows vs (i+1) (out.set v.toNat (domOfP (gJ rows i)).1) hn2.2 (fun u hu=>by rw[List.length_set];exact h0 u (.tail _ hu)) k
  rw[gr]
  refine⟨fun hk=> ?_,fun j hj=> ?_⟩
  ·have hne:v≠(k:Int):=fun e=>hk (by rw[e];exact .head _)
   rw[h1 fun h=>hk (.tail _ h),List.getElem?_set_ne (by omega)]
  ·cases j with
   |zero=>
    simp at hj
    rw[h1 (by rw[←hj];exact hn2.1)]
    have:v.toNat=k:=by omega
    rw[this,List.getElem?_set_self (by rw[←this];exact hv.2)];rfl
   |succ j=>
    rw[h2 j (by simpa using hj)]
    congr 4;omega
theorem qP {vars r:List Int}{p:Int→Int→Bool}(hl:r.length=vars.length):((vars.zip r).all fun q=>p q.1 q.2)=true↔∀(j:Nat) v,vars[j]? =some v→p v (r.getD j 0)=true:=by
 rw[List.all_eq_true]
 constructor
 ·intro h j v hj
  have hlt:=(List.getElem?_eq_some_iff.1 hj).1
  have hr:r[j]? =some (r.getD j 0):=by rw[List.getD_eq_getElem?_getD,List.getElem?_eq_getElem (by omega)];rfl
  exact h (v,r.getD j 0) (List.mem_of_getElem? (i:=j) (List.getElem?_zip_eq_some.2 ⟨hj,hr⟩))
 ·rintro h ⟨v,x⟩ hm
  obtain⟨j,hj⟩:=List.getElem?_of_mem hm
  rw[List.getElem?_zip_eq_some]at hj
  have:=h j v hj.1
  rw[List.getD_eq_getElem?_getD,hj.2]at this
  exact this
theorem yL {n:Nat}{d:aa}{c:Con}(gd:GoodD n d)(hc:ConB c)(h:conR d c=0)(hk:c.kind=2):bK c d=tabO d c:=by
 obtain⟨_,hv,hr,hin⟩:=di hc h
 have hu:usesR c=aT c.vars:=by unfold usesR;rw[if_neg (by omega)]
 have hrr:c.vars.Nodup∧(∀r∈c.rows,r.length=c.vars.length∧∀x∈r,-1048576≤x∧x≤1048576)∧c.rows.length≤1024:=by
  unfold rightR at hr
  rw[if_neg (by omega),if_neg (by omega),if_pos hk]at hr
  simp only[manyR,kB,Bool.and_eq_true,decide_eq_true_eq,List.all_eq_true]at hr
  refine⟨hr.1.2.2,fun r hrm=> ?_,hr.2.2⟩
  have:=hr.2.1 r hrm
  simp only[ei,aG,Bool.and_eq_true,decide_eq_true_eq,List.all_eq_true]at this
  exact⟨this.1,fun x hx=>by have:=this.2 x hx;omega⟩
 obtain⟨hnod,hrow,hfew⟩:=hrr
 have hnd:(usesR c).Nodup:=dw (bW _)
 have hmem: ∀u,u∈usesR c↔u∈c.vars:=fun u=>by rw[hu];exact bH u _
 have hP: ∀f:Int→Int,bS c (ex d.length (usesR c) ((usesR c).map f) (usesR c).length)=true↔c.vars.map f∈c.rows:=fun f=>by
  have hpk:aY c.vars (ex d.length (usesR c) ((usesR c).map f) (usesR c).length)=c.vars.map f:=List.map_congr_left fun v hv=>li f hin ((hmem v).2 hv)
  unfold bS
  rw[if_neg (by omega),if_neg (by omega),if_pos hk,hpk,List.any_eq_true]
  constructor
  ·rintro⟨r,h1,h2⟩;rw[←of_decide_eq_true h2];exact h1
  ·exact fun h1=>⟨_,h1,decide_eq_true rfl⟩
 have hri: ∀r∈c.rows,kC d c.vars r=true↔∀(j:Nat) v,c.vars[j]? =some v→r.getD j 0∈vals (domAt d v):=fun r hrm=>by
  unfold kC
  rw[qP (p:=fun v x=>hasV (domAt d v) x) (hrow r hrm).1]
  exact forall_congr' fun j=>forall_congr' fun v=>imp_congr_right fun _=>c8
 have hsupp: ∀v∈c.vars,∀x,o6 d (usesR c) (fun t=>bS c (ex d.length (usesR c) t (usesR c).length)) v x↔∃r∈rowsP d c,r.getD (c.vars.idxOf v) 0=x:=fun v hv x=>by
  have hiv:c.vars.idxOf v<c.vars.length:=List.idxOf_lt_length_iff.2 hv
  constructor
  ·rintro⟨f,h1,h2,rfl⟩
   have h2:=(hP f).1 h2
   refine⟨c.vars.map f,List.mem_filter.2 ⟨h2,(hri _ h2).2 fun j v hj=> ?_⟩,?_⟩
   ·rw[List.getD_eq_getElem?_getD,List.getElem?_map,hj]
    exact h1 v ((hmem v).2 (List.mem_of_getElem? hj))
   ·rw[List.getD_eq_getElem?_getD,List.getElem?_map,List.getElem?_eq_getElem hiv,List.getElem_idxOf];rfl
  ·rintro⟨r,hr,rfl⟩
   obtain⟨hrm,hro⟩:=List.mem_filter.1 hr
   have hro:=(hri r hrm).1 hro
   refine⟨fun u=>r.getD (c.vars.idxOf u) 0,fun u hu=> ?_,(hP _).2 ?_,rfl⟩
   ·have hm:=(hmem u).1 hu
    refine hro (c.vars.idxOf u) u ?_
    rw[List.getElem?_eq_getElem (List.idxOf_lt_length_iff.2 hm),List.getElem_idxOf]
   ·have:c.vars.map (fun u=>r.getD (c.vars.idxOf u) 0)=r:=by
     refine List.ext_getElem (by rw[List.length_map,(hrow r hrm).1]) fun j h1 h2=> ?_
     have hj:j<c.vars.length:=by simpa using h1
     rw[List.getElem_map,hnod.idxOf_getElem j hj,List.getD_eq_getElem?_getD,List.getElem?_eq_getElem h2];rfl
    rw[this];exact hrm
 have hcol: ∀j,j<c.vars.length→(domOfP (gJ (rowsP d c) j)).1=cW (aT (gJ (rowsP d c) j)):=fun j hj=>by
  have h1: ∀x∈gJ (rowsP d c) j,-1048576≤x∧x≤1048576:=fun x hx=>by
   obtain⟨r,hr,rfl⟩:=List.mem_map.1 hx
   have hrm:=(List.mem_filter.1 hr).1
   have hl:=(hrow r hrm).1
   rw[List.getD_eq_getElem?_getD,List.getElem?_eq_getElem (by omega)]
   exact(hrow r hrm).2 _ (List.getElem_mem _)
  have h2:(gJ (rowsP d c) j).length≤4096:=by
   have:(rowsP d c).length≤c.rows.length:=List.length_filter_le _ _
   simp only[gJ,List.length_map];omega
  rw[vV h1 h2]
 have hat:=sh (rowsP d c) c.vars 0 d hnod hv.2
 have hdat: ∀v∈c.vars,∃y,(gr (rowsP d c) c.vars 0 d)[v.toNat]? =some y∧ax y∧∀x,x∈vals y↔∃r∈rowsP d c,r.getD (c.vars.idxOf v) 0=x:=fun v hvm=>by
  have hiv:c.vars.idxOf v<c.vars.length:=List.idxOf_lt_length_iff.2 hvm
  have h0:=hv.2 v hvm
  have e:((v.toNat:Nat):Int)=v:=by omega
  have h3:=(hat v.toNat).2 (c.vars.idxOf v) (by rw[e,List.getElem?_eq_getElem hiv,List.getElem_idxOf])
  rw[Nat.zero_add,hcol _ hiv]at h3
  refine⟨_,h3,fU (bW _),fun x=> ?_⟩
  rw[bG (bW _),bH]
  unfold gJ
  rw[List.mem_map]
 unfold bK tabO
 rw[if_neg (by omega),if_neg (by omega),if_neg (by omega),if_neg (by omega),if_neg gd.some']
 unfold k7
 rw[if_neg gd.some']
 have hpos:c.vars≠[]:=fun e=>by
  unfold rightR at hr
  rw[if_neg (by omega),if_neg (by omega),if_pos hk]at hr
  simp only[manyR,Bool.and_eq_true,decide_eq_true_eq]at hr
  have:=hr.1.2.1
  rw[e]at this;simp at this
 rw[m8 (out:=gr (rowsP d c) c.vars 0 d) hnd hin (pB _ _ _ _) (fun x hx=> ?_) (fun v hvm x=> ?_) (fun i hi=>(hat i).1 fun hm=>hi ((hmem _).2 hm))]
 ·unfold mi
  by_cases hr0:rowsP d c=[]
  ·rw[if_pos hr0,if_pos]
   obtain⟨v,hvm⟩:=List.exists_mem_of_ne_nil _ hpos
   obtain⟨y,hy,hok,hx⟩:=hdat v hvm
   have:y=[]:=(eZ hok).1 (List.eq_nil_iff_forall_not_mem.2 fun x hxm=>by
    obtain⟨r,hr,_⟩:=(hx x).1 hxm
    rw[hr0]at hr;cases hr)
   exact this▸List.mem_of_getElem? hy
  ·rw[if_neg hr0,if_neg]
   intro hm
   obtain⟨k,hk2⟩:=List.getElem?_of_mem hm
   by_cases hkv:(k:Int)∈c.vars
   ·obtain⟨y,hy,hok,hx⟩:=hdat _ hkv
    rw[Int.toNat_natCast,hk2]at hy
    obtain rfl:=Option.some.inj hy
    obtain⟨r,hr⟩:=List.exists_mem_of_ne_nil _ hr0
    have:=(hx _).2 ⟨r,hr,rfl⟩
    cases this
   ·rw[(hat k).1 hkv]at hk2
    exact gd.some' (List.mem_of_getElem? hk2)
 ·obtain⟨k,hk2⟩:=List.getElem?_of_mem hx
  by_cases hkv:(k:Int)∈c.vars
  ·obtain⟨y,hy,hok,_⟩:=hdat _ hkv
   rw[Int.toNat_natCast,hk2]at hy
   exact Option.some.inj hy▸hok
  ·rw[(hat k).1 hkv]at hk2
   exact(gd.few.fine x (List.mem_of_getElem? hk2)).ok
 ·have hvc:=(hmem v).1 hvm
  obtain⟨y,hy,_,hx⟩:=hdat v hvc
  have:domAt (gr (rowsP d c) c.vars 0 d) v=y:=by
   unfold domAt
   rw[List.getD_eq_getElem?_getD,hy];rfl
  rw[this,hx,hsupp v hvc]
theorem lj {x:Int×Int}{a:List (Int×Int)}(h:ax (x::a)){v:Int}(hv:v∈vals a):x.2+2≤v:=by
 obtain⟨s,hs,h4,h5⟩:=aQ.1 hv
 have:=(List.pairwise_cons.1 h.2).1 s hs
 omega
theorem m3: ∀(n:Nat) (a b:List (Int×Int)),a.length+b.length≤n→ax a→ax b→ax (bu a b)∧(∀r∈bu a b,∃s∈a,s.1≤r.1∧r.2≤s.2)∧(∀r∈bu a b,∃s∈b,s.1≤r.1∧r.2≤s.2)∧∀v,v∈vals (bu a b)↔v∈vals a∧v∈vals b
 |_,[],b,_,_,_=>by rw[m5];exact⟨⟨by simp,.nil⟩,by simp,by simp,by simp[vals]⟩
 |_,x::a,[],_,_,_=>by rw[m4];exact⟨⟨by simp,.nil⟩,by simp,by simp,by simp[vals]⟩
 |0,x::a,y::b,hn,_,_=>by simp at hn
 |n+1,x::a,y::b,hn,ha,hb=>by
  have hx:=ha.1 x (.head _)
  have hy:=hb.1 y (.head _)
  have hpa:=(List.pairwise_cons.1 ha.2).1
  have hpb:=(List.pairwise_cons.1 hb.2).1
  rw[gY]
  have key:ax (if x.2<y.2 then bu a (y::b)else bu (x::a) b)∧(∀r∈(if x.2<y.2 then bu a (y::b)else bu (x::a) b),(∃s∈x::a,s.1≤r.1∧r.2≤s.2)∧(∃s∈y::b,s.1≤r.1∧r.2≤s.2)∧min x.2 y.2+2≤r.1)∧
    ∀v,v∈vals (if x.2<y.2 then bu a (y::b)else bu (x::a) b)↔(v∈vals (x::a)∧v∈vals (y::b))∧min x.2 y.2<v:=by
   by_cases hlt:x.2<y.2
   ·rw[if_pos hlt]
    obtain⟨h1,h2,h3,h4⟩:=m3 n a (y::b) (by simp at hn⊢;omega) ha.tail hb
    refine⟨h1,fun r hr=> ?_,fun v=> ?_⟩
    ·obtain⟨s,hs,h5,h6⟩:=h2 r hr
     have:=hpa s hs
     exact⟨⟨s,.tail _ hs,h5,h6⟩,h3 r hr,by omega⟩
    ·rw[h4,bg x a,List.mem_append,cA]
     constructor
     ·rintro⟨h5,h6⟩
      have:=lj ha h5
      exact⟨⟨.inr h5,h6⟩,by omega⟩
     ·rintro⟨⟨h5|h5,h6⟩,h7⟩
      ·omega
      ·exact⟨h5,h6⟩
   ·rw[if_neg hlt]
    obtain⟨h1,h2,h3,h4⟩:=m3 n (x::a) b (by simp at hn⊢;omega) ha hb.tail
    refine⟨h1,fun r hr=> ?_,fun v=> ?_⟩
    ·obtain⟨s,hs,h5,h6⟩:=h3 r hr
     have:=hpb s hs
     exact⟨h2 r hr,⟨s,.tail _ hs,h5,h6⟩,by omega⟩
    ·rw[h4,bg y b,List.mem_append,cA]
     constructor
     ·rintro⟨h5,h6⟩
      have:=lj hb h6
      exact⟨⟨h5,.inr h6⟩,by omega⟩
     ·rintro⟨⟨h5,h6|h6⟩,h7⟩
      ·omega
      ·exact⟨h5,h6⟩
  generalize (if x.2<y.2 then bu a (y::b)else bu (x::a) b)=t at*
  obtain⟨t1,t2,t3⟩:=key
  have hmem: ∀v,v≤min x.2 y.2→(v∈vals (x::a)∧v∈vals (y::b)↔max x.1 y.1≤v):=fun v hv=>by
   rw[bg,bg,List.mem_append,List.mem_append,cA,cA]
   constructor
   ·rintro⟨h5|h5,h6|h6⟩
    ·omega
    ·have:=lj hb h6;omega
    ·have:=lj ha h5;omega
    ·have:=lj ha h5;omega
   ·intro h5
    exact⟨.inl (by omega),.inl (by omega)⟩
  by_cases hc:max x.1 y.1≤min x.2 y.2
  ·rw[if_pos hc]
   refine⟨⟨fun r hr=> ?_,List.pairwise_cons.2 ⟨fun r hr=> ?_,t1.2⟩⟩,fun r hr=> ?_,fun r hr=> ?_,fun v=> ?_⟩
   ·rcases List.mem_cons.1 hr with rfl|hr
    ·exact hc
    ·exact t1.1 r hr
   ·have:=(t2 r hr).2.2
    simp only;omega
   ·rcases List.mem_cons.1 hr with rfl|hr
    ·exact⟨x,.head _,by simp only;omega,by simp only;omega⟩
    ·exact(t2 r hr).1
   ·rcases List.mem_cons.1 hr with rfl|hr
    ·exact⟨y,.head _,by simp only;omega,by simp only;omega⟩
    ·exact(t2 r hr).2.1
   ·rw[List.singleton_append,bg,List.mem_append,cA,t3]
    by_cases hv:v≤min x.2 y.2
    ·rw[hmem v hv]
     simp only
     omega
    ·simp only
     constructor
     ·rintro(h5|h5)
      ·omega
      ·exact h5.1
     ·exact fun h5=> .inr ⟨h5,by omega⟩
  ·rw[if_neg hc,List.nil_append]
   refine⟨t1,fun r hr=>(t2 r hr).1,fun r hr=>(t2 r hr).2.1,fun v=> ?_⟩
   rw[t3]
   constructor
   ·exact fun h=>h.1
   ·intro h
    refine⟨h,Classical.byContradiction fun hv=> ?_⟩
    have:=(hmem v (by omega)).1 h
    omega
theorem zp {a b:List (Int×Int)}(ha:ax a)(hb:ax b):ax (bu a b)∧∀v,v∈vals (bu a b)↔v∈vals a∧v∈vals b:=
 ⟨(m3 _ a b (Nat.le_refl _) ha hb).1,(m3 _ a b (Nat.le_refl _) ha hb).2.2.2⟩
def tI (out:List (Int×Int))(x:Int×Int):List (Int×Int):=match out.getLast? with
 |none=>out++[x]
 |some r=>if x.1≤r.2+1 then out.dropLast++[(r.1,max r.2 x.2)]else out++[x]
def joinG (l:List (Int×Int)):List (Int×Int):=l.foldl tI []
theorem jh (x:Int×Int):tI [] x=[x]:=rfl
theorem g9 (o:List (Int×Int))(r x:Int×Int):tI (o++[r]) x=if x.1≤r.2+1 then o++[(r.1,max r.2 x.2)]else o++[r]++[x]:=by
 unfold tI
 rw[List.getLast?_append]
 simp
theorem hI (l:List (Int×Int))(x:Int×Int):joinG (l++[x])=tI (joinG l) x:=by simp[joinG]
theorem snocInd {α:Type}{P:List α→Prop}(h0:P [])(h1: ∀l x,P l→P (l++[x]))(l:List α):P l:=by
 have key: ∀l:List α,P l.reverse:=by
  intro l
  induction l with
  |nil=>exact h0
  |cons x l ih=>rw[List.reverse_cons];exact h1 _ _ ih
 have:=key l.reverse
 rwa[List.reverse_reverse]at this
theorem x6 (l:List (Int×Int)):(joinG l).length≤l.length:=by
 refine snocInd (P:=fun l=>(joinG l).length≤l.length) (by simp[joinG]) (fun l x ih=> ?_) l
 ·show(joinG (l++[x])).length≤(l++[x]).length
  rw[hI]
  rcases List.eq_nil_or_concat (joinG l)with h|⟨o,r,h⟩
  ·rw[h,jh];simp
  ·rw[h,List.concat_eq_append,g9]
   rw[h,List.concat_eq_append]at ih
   split<;>simp at ih⊢ <;>omega
theorem AD: ∀(l:List (Int×Int)),(∀r∈l,r.1≤r.2)→l.Pairwise (fun r s=>r.1≤s.1)→ax (joinG l)∧(∀r∈joinG l,∃s∈l,r.1=s.1)∧∀v,v∈vals (joinG l)↔∃r∈l,r.1≤v∧v≤r.2:=by
 intro l
 refine snocInd (P:=fun l=>(∀r∈l,r.1≤r.2)→l.Pairwise (fun r s=>r.1≤s.1)→ax (joinG l)∧(∀r∈joinG l,∃s∈l,r.1=s.1)∧∀v,v∈vals (joinG l)↔∃r∈l,r.1≤v∧v≤r.2) (fun _ _=>⟨⟨by simp[joinG],.nil⟩,by simp[joinG],by simp[joinG,vals]⟩) (fun l x ih=> ?_) l
 ·intro h1 h2
  have hp:=List.pairwise_append.1 h2
  obtain⟨i1,i2,i3⟩:=ih (fun r hr=>h1 r (List.mem_append_left _ hr)) hp.1
  have hx:=h1 x (List.mem_append_right _ (.head _))
  have hle: ∀r∈joinG l,r.1≤x.1:=fun r hr=>by
   obtain⟨s,hs,e⟩:=i2 r hr
   rw[e];exact hp.2.2 s hs x (.head _)
  have hmem: ∀v,(∃r∈l++[x],r.1≤v∧v≤r.2)↔v∈vals (joinG l)∨(x.1≤v∧v≤x.2):=fun v=>by
   rw[i3]
   constructor
   ·rintro⟨r,hr,h⟩
    rcases List.mem_append.1 hr with hr|hr
    ·exact .inl ⟨r,hr,h⟩
    ·rw[List.mem_singleton.1 hr]at h;exact .inr h
   ·rintro(⟨r,hr,h⟩|h)
    ·exact⟨r,List.mem_append_left _ hr,h⟩
    ·exact⟨x,List.mem_append_right _ (.head _),h⟩
  rw[hI]
  rcases List.eq_nil_or_concat (joinG l)with h|⟨o,r,h⟩
  ·rw[h]at hmem⊢
   rw[jh]
   refine⟨⟨by simp;omega,List.pairwise_singleton _ _⟩,fun r hr=>⟨x,List.mem_append_right _ (.head _),by rw[List.mem_singleton.1 hr]⟩,fun v=> ?_⟩
   rw[hmem]
   simp[vals,cA]
  ·rw[h,List.concat_eq_append]at i1 i2 hle hmem⊢
   rw[g9]
   obtain⟨a1,a2⟩:=i1
   have hpo:=List.pairwise_append.1 a2
   have hr:=a1 r (List.mem_append_right _ (.head _))
   have hrx:=hle r (List.mem_append_right _ (.head _))
   have vs: ∀(o:List (Int×Int)) (v:Int),v∈vals (o++[r])↔v∈vals o∨(r.1≤v∧v≤r.2):=fun o v=>by simp[vals,cA]
   by_cases hc:x.1≤r.2+1
   ·rw[if_pos hc]
    refine⟨⟨fun s hs=> ?_,List.pairwise_append.2 ⟨hpo.1,List.pairwise_singleton _ _,fun s hs t ht=> ?_⟩⟩,fun s hs=> ?_,fun v=> ?_⟩
    ·rcases List.mem_append.1 hs with hs|hs
     ·exact a1 s (List.mem_append_left _ hs)
     ·rw[List.mem_singleton.1 hs];simp only;omega
    ·rw[List.mem_singleton.1 ht]
     exact hpo.2.2 s hs r (.head _)
    ·rcases List.mem_append.1 hs with hs|hs
     ·obtain⟨t,ht,e⟩:=i2 s (List.mem_append_left _ hs)
      exact⟨t,List.mem_append_left _ ht,e⟩
     ·obtain⟨t,ht,e⟩:=i2 r (List.mem_append_right _ (.head _))
      exact⟨t,List.mem_append_left _ ht,by rw[List.mem_singleton.1 hs];exact e⟩
    ·rw[hmem,vs]
     have:v∈vals (o++[(r.1,max r.2 x.2)])↔v∈vals o∨(r.1≤v∧v≤max r.2 x.2):=by simp[vals,cA]
     rw[this]
     constructor
     ·rintro(h5|h5)
      ·exact .inl (.inl h5)
      ·by_cases h6:v≤r.2
       ·exact .inl (.inr ⟨h5.1,h6⟩)
       ·exact .inr (by omega)
     ·rintro((h5|h5)|h5)
      ·exact .inl h5
      ·exact .inr (by omega)
      ·exact .inr (by omega)
   ·rw[if_neg hc]
    refine⟨⟨fun s hs=> ?_,List.pairwise_append.2 ⟨a2,List.pairwise_singleton _ _,fun s hs t ht=> ?_⟩⟩,fun s hs=> ?_,fun v=> ?_⟩
    ·rcases List.mem_append.1 hs with hs|hs
     ·exact a1 s hs
     ·rw[List.mem_singleton.1 hs];exact hx
    ·rw[List.mem_singleton.1 ht]
     rcases List.mem_append.1 hs with hs|hs
     ·have:=hpo.2.2 s hs r (.head _);omega
     ·rw[List.mem_singleton.1 hs];omega
    ·rcases List.mem_append.1 hs with hs|hs
     ·obtain⟨t,ht,e⟩:=i2 s hs
      exact⟨t,List.mem_append_left _ ht,e⟩
     ·exact⟨x,List.mem_append_right _ (.head _),by rw[List.mem_singleton.1 hs]⟩
    ·rw[hmem]
     simp[vals,cA,or_assoc]
end Go.Proofs.YtopcjbahjjhdmaaGreat
namespace Go.Proofs.YtopcjbahjjhdmaaGreat
open Go Go.RowKit Go.Sort
set_option linter.unusedVariables false
set_option linter.unusedSimpArgs false
set_option maxRecDepth 8000
def RB:Type:= {r:Int×Int // -2097152≤r.1∧r.1≤2097152}
def rb0:RB:=⟨(0,0),by decide,by decide⟩
instance:Inhabited RB:=⟨rb0⟩
def dL (x:RB):List Value:=[.int .i64 x.1.1,.int .i64 x.1.2]
def mT (x y:RB):Int:=x.1.1-y.1.1
theorem Aw (x y:RB):ltOf mT x y=decide (x.1.1<y.1.1):=by
 unfold ltOf mT
 by_cases h:x.1.1<y.1.1
 ·simp[h];omega
 ·simp[h];omega
theorem AW:SWO (ltOf mT) where
 irrefl x:=by rw[Aw];simp
 trans x y z h1 h2:=by rw[Aw]at *;simp at *;omega
 ntrans x y z h1 h2:=by rw[Aw]at *;simp at *;omega
theorem B2 (x y:RB)(W:World):Calls Tryz.prog 229 #[.agg (dL x).toArray,.agg (dL y).toArray] W fun e w'=>e= .returned (.int .i64 (mT x y))∧∃q os',w'=grow (W.drewN q) os':=by
 have hw:IntKind.i64.wrap (x.1.1-y.1.1)=x.1.1-y.1.1:=ac (by have:=x.2;have:=y.2;omega) (by have:=x.2;have:=y.2;omega)
 unfold dL mT
 go_enter Tryz.func229,Tryz.ntmps229
 go_wp2
 go_ret
 exact⟨rfl,0,_,by rw[alloc_eq_grow,alloc_eq_grow,grow_grow];rfl⟩
theorem Bm (l:List RB):(flatK dL 2 l.toArray).toList=(l.map dL).flatten:=by
 have key: ∀(l:List RB) (t:Nat),t<l.length*2→((l.map dL).flatten)[t]? =some (dL l[t / 2]!)[t % 2]! :=by
  intro l
  induction l with
  |nil=>intro t h;simp at h
  |cons x l ih=>
   intro t h
   match t with
   |0=>rfl
   |1=>rfl
   |t+2=>
    rw[List.map_cons,List.flatten_cons,show(dL x)=[.int .i64 x.1.1,.int .i64 x.1.2]from rfl]
    rw[show∀(a b:Value) (m:List Value),([a,b]++m)[t+2]? =m[t]? from fun _ _ _=>rfl,ih t (by simp at h;omega)]
    rw[show(t+2) / 2=t / 2+1 by omega,show(t+2) % 2=t % 2 by omega]
    rfl
 have hlen:((l.map dL).flatten).length=l.length*2:=by
  induction l with
  |nil=>rfl
  |cons x l ih=>rw[List.map_cons,List.flatten_cons,List.length_append,ih];simp[dL];omega
 refine List.ext_getElem (by rw[Array.length_toList,size_flatK,hlen];rfl) fun t h1 h2=> ?_
 have ht:t<l.length*2:=by rw[←hlen];exact h2
 have h3:=key l t ht
 rw[List.getElem?_eq_getElem h2]at h3
 have h4:=get_flatK dL 2 l.toArray t (by simpa using ht)
 rw[getElem!_pos _ t (by simpa using ht)]at h4
 rw[Array.getElem_toList,h4,Option.some.inj h3]
 simp
theorem vN {w:World}{g:Nat}{cur:Array Value}{e:TypeId}{F:Array Value}(hb:w.heap[g]? =some (.cells cur e (0,0)))(ht:cur.toList.take F.size=F.toList):Holds id w g 0 F:=by
 intro j hj
 refine⟨?_,by simp[World.frozen?,hb]⟩
 have h1:(cur.toList.take F.size)[j]? =F.toList[j]? :=by rw[ht]
 rw[List.getElem?_take_of_lt hj]at h1
 simp only[World.cell?,hb,Nat.zero_add]
 simp only[Option.isSome_none,Bool.false_eq_true,if_false]
 rw[←Array.getElem?_toList,h1]
 simp[hj]
theorem qU (cur F:Array Value)(h:F.size≤cur.size):(Go.Sort.putCells id 0 F cur).toList.take F.size=F.toList:=by
 apply List.ext_getElem?
 intro j
 by_cases hj:j<F.size
 ·rw[List.getElem?_take_of_lt hj,Array.getElem?_toList]
  simp[Go.Sort.putCells,hj,show j<cur.size by omega]
 ·rw[List.getElem?_take_eq_none (by omega),List.getElem?_eq_none (by simp;omega)]
def iE (r:Int×Int):RB:=if h: -2097152≤r.1∧r.1≤2097152 then⟨r,h⟩else rb0
def sortR (l:List (Int×Int)):List (Int×Int):=((pdq (ltOf mT) (l.map iE).toArray 0 l.length (Lib.bitLen l.length) true true).toList).map (·.1)
theorem sf {l:List (Int×Int)}(h: ∀r∈l,-2097152≤r.1∧r.1≤2097152):(l.map iE).map (·.1)=l:=by
 rw[List.map_map]
 conv=>rhs;rw[←List.map_id l]
 refine List.map_congr_left fun r hr=> ?_
 simp[iE,h r hr]
theorem nA {l:List (Int×Int)}(h: ∀r∈l,-2097152≤r.1∧r.1≤2097152):(sortR l).Perm l∧(sortR l).Pairwise (fun r s=>r.1≤s.1):=by
 have hs:(l.map iE).toArray.size=l.length:=by simp
 have hp:=pdq_sorts (ltOf mT) AW (l.map iE).toArray 0 (l.map iE).toArray.size (Lib.bitLen (l.map iE).toArray.size) true true (Nat.zero_le _) (Nat.le_refl _) (Or.inl rfl)
 rw[hs]at hp
 unfold sortR
 generalize pdq (ltOf mT) (l.map iE).toArray 0 l.length (Lib.bitLen l.length) true true=d' at hp⊢
 obtain⟨⟨h1,_,h3⟩,h4⟩:=hp
 rw[hs]at h1
 have e1:(d'.extract 0 l.length).toList=d'.toList:=by rw[←h1];simp
 have e2:((l.map iE).toArray.extract 0 l.length).toList=l.map iE:=by simp[List.take_of_length_le]
 rw[e1,e2]at h3
 refine⟨?_,?_⟩
 ·have:=h3.map (·.1)
  rwa[sf h]at this
 ·rw[List.pairwise_map,List.pairwise_iff_getElem]
  intro i j hi hj hij
  have:=h4 i j (Nat.zero_le _) hij (by rw[←h1];simpa using hj)
  rw[Aw,getElem!_pos _ i (by simpa using hi),getElem!_pos _ j (by simpa using hj)]at this
  simp at this
  simpa using this
theorem nV {w:World}{Z:Nat→Prop}: ∀{l:List (Int×Int)} {vs:List Value},L2 (Rep w Z) vs (l.map cR).flatten→vs=(l.map fun r=>[Value.int .i64 r.1,Value.int .i64 r.2]).flatten
 | [],_,.nil=>rfl
 |r::l,_,.cons h1 (.cons h2 h3)=>by
  cases h1;cases h2
  rw[nV h3];rfl
theorem nQ {w:World}{Z:Nat→Prop}: ∀(l:List (Int×Int)),L2 (Rep w Z) (l.map fun r=>[Value.int .i64 r.1,Value.int .i64 r.2]).flatten (l.map cR).flatten
 | []=> .nil
 |r::l=> .cons (.int _ _) (.cons (.int _ _) (nQ l))
theorem wZ {l:List (Int×Int)}(m:List RB)(h:m.map (·.1)=l):(flatK dL 2 m.toArray).toList=(l.map fun r=>[Value.int .i64 r.1,Value.int .i64 r.2]).flatten:=by
 rw[Bm,←h,List.map_map];rfl
theorem sk (l:List (Int×Int))(hl:l.length*16≤140737488355328)(hb: ∀r∈l,-2097152≤r.1∧r.1≤2097152):SpecM Tryz.prog 228 53 2 (l.map cR) [.fn (.func 229) [] []] ((sortR l).map cR) []:=by
 have hsl:(sortR l).length=l.length:=(nA hb).1.length_eq
 refine⟨⟨_,Tryz.func228,rfl,rfl⟩,fun p hp=>(by cases hp),fun w Z1 v0 vs ho hz hvs=> ?_⟩
 cases hvs with
 |cons hf hvs=>
 cases hvs
 cases hf with
 |fn _ us vs _ _ hu hc=>
 cases hu
 cases hc
 obtain⟨xs,hrow,hx,h1,h2⟩:=ho
 obtain rfl:=nV hx
 rw[List.length_map]at hrow
 obtain⟨hln,hrow⟩:=hrow
 have hflen: ∀m:List (Int×Int),((m.map fun r=>[Value.int .i64 r.1,Value.int .i64 r.2]).flatten).length=m.length*2:=fun m=>by
  induction m with
  |nil=>rfl
  |cons r m ih=>rw[List.map_cons,List.flatten_cons,List.length_append,ih];simp;omega
 rcases hrow with ⟨rfl,hnil⟩|⟨g,cap,cur,rfl,_,hbk,hcap,hmax,hsz,htk⟩
 ·obtain rfl:l=[]:=by simpa using hnil
  refine(AnyF.slices_SortFunc_none qa none 0 _ w).mono ?_
  rintro e w' ⟨rfl,rfl⟩
  have hn:sortR []=[]:=List.eq_nil_of_length_eq_zero hsl
  refine⟨[],rfl,rfl,rfl,rfl,Nat.le_refl _,fun _ _ _=>rfl,?_,.nil⟩
  rw[hn]
  refine⟨[],⟨rfl,.inl ⟨rfl,rfl⟩⟩,.nil,?_,?_⟩<;>(intro r hr;cases hr)
 ·have hg:g<w.heap.size:=(Array.getElem?_eq_some_iff.1 hbk).1
  have hfl:=wZ (l.map iE) (sf hb)
  have hfs:(flatK dL 2 (l.map iE).toArray).size=l.length*2:=by simp
  have hH:HoldsK dL 2 w g 0 (l.map iE).toArray:=vN hbk (by rw[hfs,hfl];exact htk)
  have hcon:=AnyQ.slices_SortFunc_eq qa 2 Tryz.isAgg53 Tryz.sizeOf53 dL (fun _=>rfl) (fun x v hv=>by simp[dL]at hv;rcases hv with rfl|rfl<;>rfl) mT AW 229 #[] g 0 cap (l.map iE).toArray w
   (enters_of Tryz.func229 (by kernel_rfl) rfl) (fun _ _ _ _ x y=>B2 x y _) hH hg (by simp;omega)
  rw[show(l.map iE).toArray.size=l.length by simp]at hcon
  refine hcon.mono ?_
  rintro e w' ⟨rfl,n,os,rfl⟩
  have hpz:(pdq (ltOf mT) (l.map iE).toArray 0 l.length (Lib.bitLen l.length) true true).size=l.length:=by
   have:=hsl
   unfold sortR at this
   simpa using this
  have hfl2:=wZ (l:=sortR l) (pdq (ltOf mT) (l.map iE).toArray 0 l.length (Lib.bitLen l.length) true true).toList rfl
  generalize pdq (ltOf mT) (l.map iE).toArray 0 l.length (Lib.bitLen l.length) true true=d' at hpz hfl2⊢
  have hfs2:(flatK dL 2 d').size=l.length*2:=by rw[size_flatK,hpz]
  have hh:(sortWorldK dL 2 w g 0 n d' os).heap[g]? =some (.cells (Go.Sort.putCells id 0 (flatK dL 2 d') cur) 53 (0,0)):=by
   unfold sortWorldK putRowK
   rw[heap_grow_old _ _ (by simpa using hg)]
   simp[putRow,mapBlock,Sort.ahead,Array.getElem?_modify,hbk,onCells]
  have htk2:(Go.Sort.putCells id 0 (flatK dL 2 d') cur).toList.take ((sortR l).length*2)=((sortR l).map fun r=>[Value.int .i64 r.1,Value.int .i64 r.2]).flatten:=by
   rw[hsl,←hfs2,qU _ _ (by rw[hfs2,hsz];exact Nat.mul_le_mul_right 2 hcap)]
   exact hfl2
  refine⟨[],rfl,rfl,rfl,rfl,?_,fun b hb1 hb2=> ?_,⟨((sortR l).map fun r=>[Value.int .i64 r.1,Value.int .i64 r.2]).flatten,⟨by rw[hflen,List.length_map],.inr ⟨g,cap,_,by rw[List.length_map,hsl],Nat.zero_le _,hh,by rw[List.length_map,hsl];exact hcap,hmax,by simp[Go.Sort.putCells,hsz],by rw[List.length_map];exact htk2⟩⟩,nQ _,fun r hr=> ?_,fun r hr p hp=> ?_⟩,.nil⟩
  ·unfold sortWorldK putRowK
   simp
  ·unfold sortWorldK putRowK
   rw[heap_grow_old _ _ (by simpa using hb1)]
   have:g≠b:=fun e=>hb2 (by simp[VB,au,e])
   simp[putRow,mapBlock,Sort.ahead,Array.getElem?_modify,this]
  ·obtain⟨x,_,rfl⟩:=List.mem_map.1 hr;rfl
  ·obtain⟨x,_,rfl⟩:=List.mem_map.1 hr
   simp[cR]at hp
   rcases hp with rfl|rfl<;>rfl
end Go.Proofs.YtopcjbahjjhdmaaGreat
namespace Go.Proofs.YtopcjbahjjhdmaaGreat
open Go Go.RowKit
set_option linter.unusedVariables false
set_option linter.unusedSimpArgs false
def oz (a b:List (Int×Int)):List (Int×Int):=joinG (sortR (a++b))
theorem zF {a b:List (Int×Int)}(ha:ax a)(hb:ax b)(h: ∀r∈a++b,-1048576≤r.1∧r.1≤1048576∧-1048576≤r.2∧r.2≤1048576):ax (oz a b)∧∀v,v∈vals (oz a b)↔v∈vals a∨v∈vals b:=by
 obtain⟨h1,h2⟩:=nA (l:=a++b) fun r hr=>by have:=h r hr;omega
 obtain⟨h3,_,h4⟩:=AD (sortR (a++b)) (fun r hr=>by
  rcases List.mem_append.1 (h1.mem_iff.1 hr)with hr|hr
  ·exact ha.1 r hr
  ·exact hb.1 r hr) h2
 refine⟨h3,fun v=> ?_⟩
 show v∈vals (joinG _)↔_
 rw[h4,aQ,aQ]
 constructor
 ·rintro⟨r,hr,h⟩
  rcases List.mem_append.1 (h1.mem_iff.1 hr)with hr|hr
  ·exact .inl ⟨r,hr,h⟩
  ·exact .inr ⟨r,hr,h⟩
 ·rintro(⟨r,hr,h⟩|⟨r,hr,h⟩)
  ·exact⟨r,h1.mem_iff.2 (List.mem_append_left _ hr),h⟩
  ·exact⟨r,h1.mem_iff.2 (List.mem_append_right _ hr),h⟩
def elemM (d:aa)(vs:List Int)(i:Int):List (Int×Int):=bu (domAt d (vs.getD (i.toNat+2) 0)) (domAt d (vs.getD 1 0))
def elemIn (d:aa)(vs:List Int)(i:Int):Bool:=decide (0≤i)&&decide (i.toNat+2<vs.length)&& !decide (elemM d vs i=[])
def elemPl (d:aa)(vs:List Int):List Int:=(vals (domAt d (vs.getD 0 0))).filter (elemIn d vs)
def elemMay (d:aa)(vs:List Int)(l:List Int):List (Int×Int):=l.foldl (fun m i=>oz m (elemM d vs i)) []
def rD (d:aa)(vs l:List Int):aa:=
 if l.length=1 then((d.set (vs.getD 0 0).toNat (domOfP l).1).set (vs.getD 1 0).toNat (elemMay d vs l)).set (vs.getD ((l.getD 0 0).toNat+2) 0).toNat (elemMay d vs l)else(d.set (vs.getD 0 0).toNat (domOfP l).1).set (vs.getD 1 0).toNat (elemMay d vs l)
def qC (d:aa)(c:Con):Option aa:=if []∈d then none else if elemPl d c.vars=[]then none else some (rD d c.vars (elemPl d c.vars))
theorem nb {x:List (Int×Int)}(h:ax x)(hv: ∀v∈vals x,-1048576≤v∧v≤1048576): ∀r∈x,-1048576≤r.1∧r.1≤1048576∧-1048576≤r.2∧r.2≤1048576:=fun r hr=>by
 have h0:=h.1 r hr
 have h1:=hv r.1 (aQ.2 ⟨r,hr,Int.le_refl _,h0⟩)
 have h2:=hv r.2 (aQ.2 ⟨r,hr,h0,Int.le_refl _⟩)
 omega
theorem GoodD.dok {n:Nat}{d:aa}(gd:GoodD n d)(v:Int):ax (domAt d v):=by
 unfold domAt
 by_cases hv:v.toNat<d.length
 ·rw[List.getD_eq_getElem?_getD,List.getElem?_eq_getElem hv]
  exact(gd.few.fine _ (List.getElem_mem hv)).ok
 ·rw[List.getD_eq_getElem?_getD,List.getElem?_eq_none (by omega)]
  exact⟨by simp,.nil⟩
theorem d6 {n:Nat}{d:aa}(gd:GoodD n d)(vs:List Int)(i:Int):ax (elemM d vs i)∧∀v,v∈vals (elemM d vs i)↔v∈vals (domAt d (vs.getD (i.toNat+2) 0))∧v∈vals (domAt d (vs.getD 1 0)):=zp (gd.dok _) (gd.dok _)
theorem oQ {n:Nat}{d:aa}(gd:GoodD n d)(vs:List Int)(l:List Int):ax (elemMay d vs l)∧∀v,v∈vals (elemMay d vs l)↔∃i∈l,v∈vals (elemM d vs i):=by
 refine snocInd (P:=fun l=>ax (elemMay d vs l)∧∀v,v∈vals (elemMay d vs l)↔∃i∈l,v∈vals (elemM d vs i)) ⟨⟨by simp[elemMay],.nil⟩,fun v=>by simp[elemMay,vals]⟩ (fun l i ⟨h1,h2⟩=> ?_) l
 have e:elemMay d vs (l++[i])=oz (elemMay d vs l) (elemM d vs i):=by simp[elemMay]
 obtain⟨h3,h4⟩:=d6 gd vs i
 have hr: ∀j v,v∈vals (elemM d vs j)→-1048576≤v∧v≤1048576:=fun j v hv=>(gd.few.at _).2.2 v (((d6 gd vs j).2 v).1 hv).1
 obtain⟨h5,h6⟩:=zF h1 h3 fun r hr2=>by
  rcases List.mem_append.1 hr2 with hr2|hr2
  ·refine nb h1 (fun v hv=> ?_) r hr2
   obtain⟨j,_,hj⟩:=(h2 v).1 hv
   exact hr j v hj
  ·exact nb h3 (hr i) r hr2
 rw[e]
 refine⟨h5,fun v=> ?_⟩
 rw[h6,h2]
 constructor
 ·rintro(⟨j,hj,h⟩|h)
  ·exact⟨j,List.mem_append_left _ hj,h⟩
  ·exact⟨i,List.mem_append_right _ (.head _),h⟩
 ·rintro⟨j,hj,h⟩
  rcases List.mem_append.1 hj with hj|hj
  ·exact .inl ⟨j,hj,h⟩
  ·rw[List.mem_singleton.1 hj]at h;exact .inr h
theorem uf {n:Nat}{d:aa}(gd:GoodD n d)(vs:List Int)(l:List Int):(elemMay d vs l).length≤4096∧∀r∈elemMay d vs l,-1048576≤r.1∧r.1≤1048576∧-1048576≤r.2∧r.2≤1048576:=by
 obtain⟨h1,h2⟩:=oQ gd vs l
 have hs: ∀v∈vals (elemMay d vs l),v∈vals (domAt d (vs.getD 1 0)):=fun v hv=>by
  obtain⟨i,_,h⟩:=(h2 v).1 hv
  exact(((d6 gd vs i).2 v).1 h).2
 have h3:=bU (aE h1) hs
 have h4:=(gd.few.at (vs.getD 1 0)).1
 have h5:=bE h1
 exact⟨by omega,nb h1 fun v hv=>(gd.few.at _).2.2 v (hs v hv)⟩
theorem jl {vs:List Int}{f:Int→Int}{j:Nat}(h:j<vs.length):(vs.map f).getD j 0=f (vs.getD j 0):=by
 rw[List.getD_eq_getElem?_getD,List.getElem?_map,List.getElem?_eq_getElem h,List.getD_eq_getElem?_getD,List.getElem?_eq_getElem h];rfl
theorem iW {vs:List Int}(hn:vs.Nodup){i j:Nat}(hi:i<vs.length)(hj:j<vs.length)(h:vs.getD i 0=vs.getD j 0):i=j:=by
 rw[aM hi,aM hj]at h
 rw[←hn.idxOf_getElem i hi,h,hn.idxOf_getElem j hj]
theorem cT {vs:List Int}{i:Nat}(hi:i<vs.length):vs.getD i 0∈vs:=by
 rw[aM hi];exact List.getElem_mem hi
theorem ii {n:Nat}{d:aa}(gd:GoodD n d)(vs:List Int)(i:Int):i∈elemPl d vs↔i∈vals (domAt d (vs.getD 0 0))∧0≤i∧i.toNat+2<vs.length∧∃y,y∈vals (elemM d vs i):=by
 have e: ¬elemM d vs i=[]↔∃y,y∈vals (elemM d vs i):=by
  rw[←eZ (d6 gd vs i).1]
  constructor
  ·exact fun h=>List.exists_mem_of_ne_nil _ h
  ·rintro⟨y,hy⟩ h;rw[h]at hy;cases hy
 unfold elemPl elemIn
 rw[List.mem_filter,←e]
 simp[and_assoc]
def w5 (vs:List Int)(f:Int→Int):Prop:=0≤f (vs.getD 0 0)∧(f (vs.getD 0 0)).toNat+2<vs.length∧f (vs.getD ((f (vs.getD 0 0)).toNat+2) 0)=f (vs.getD 1 0)
theorem yo {vs:List Int}(h3:3≤vs.length)(f:Int→Int):zO (vs.map f)=true↔w5 vs f:=by
 unfold zO w5
 rw[jl (j:=0) (by omega),jl (j:=1) (by omega)]
 simp only[Bool.and_eq_true,decide_eq_true_eq,List.length_map]
 generalize f (vs.getD 0 0)=i
 constructor
 ·rintro⟨⟨⟨_,h1⟩,h2⟩,h4⟩
  have e:(i+2).toNat=i.toNat+2:=by omega
  rw[e,jl (by omega)]at h4
  exact⟨h1,by omega,h4⟩
 ·rintro⟨h1,h2,h4⟩
  have e:(i+2).toNat=i.toNat+2:=by omega
  rw[e,jl (by omega)]
  exact⟨⟨⟨by omega,h1⟩,by omega⟩,h4⟩
theorem yk {n:Nat}{d:aa}(gd:GoodD n d){vs:List Int}(hn:vs.Nodup)(h3:3≤vs.length)(h0: ∀u∈vs,0≤u∧u.toNat<n){v:Int}(hv:v∈vs)(x:Int):
  (∃f:Int→Int,(∀u∈vs,f u∈vals (domAt d u))∧w5 vs f∧f v=x)↔∃i y,i∈elemPl d vs∧y∈vals (elemM d vs i)∧x∈vals (domAt d v)∧(v=vs.getD 0 0→x=i)∧(v=vs.getD 1 0→x=y)∧(v=vs.getD (i.toNat+2) 0→x=y):=by
 constructor
 ·rintro⟨f,h1,⟨h4,h5,h6⟩,rfl⟩
  have hy:f (vs.getD 1 0)∈vals (elemM d vs (f (vs.getD 0 0))):=by
   rw[(d6 gd vs _).2]
   exact⟨by rw[←h6];exact h1 _ (cT h5),h1 _ (cT (by omega))⟩
  refine⟨f (vs.getD 0 0),f (vs.getD 1 0),(ii gd vs _).2 ⟨h1 _ (cT (by omega)),h4,h5,_,hy⟩,hy,h1 v hv,fun e=>by rw[e],fun e=>by rw[e],fun e=>by rw[←h6,e]⟩
 ·rintro⟨i,y,hi,hy,hx,e0,e1,e2⟩
  obtain⟨i1,i2,i3,_⟩:=(ii gd vs i).1 hi
  obtain⟨y1,y2⟩:=((d6 gd vs i).2 y).1 hy
  have hg: ∀u,∃w,u∈vs→w∈vals (domAt d u):=fun u=>by
   by_cases hu:u∈vs
   ·obtain⟨w,hw⟩:=gd.ne (h0 u hu).2
    exact⟨w,fun _=>hw⟩
   ·exact⟨0,fun h=>absurd h hu⟩
  have d01:vs.getD 1 0≠vs.getD 0 0:=fun e=>by have:=iW hn (by omega) (by omega) e;omega
  have d02:vs.getD (i.toNat+2) 0≠vs.getD 0 0:=fun e=>by have:=iW hn (by omega) (by omega) e;omega
  have d12:vs.getD (i.toNat+2) 0≠vs.getD 1 0:=fun e=>by have:=iW hn (by omega) (by omega) e;omega
  let f:Int→Int:=fun u=>if u=vs.getD 0 0 then i else if u=vs.getD 1 0 then y else if u=vs.getD (i.toNat+2) 0 then y else if u=v then x else Classical.choose (hg u)
  have f0:f (vs.getD 0 0)=i:=if_pos rfl
  have f1:f (vs.getD 1 0)=y:=by simp only[f];rw[if_neg d01,if_pos trivial]
  have f2:f (vs.getD (i.toNat+2) 0)=y:=by simp only[f];rw[if_neg d02,if_neg d12,if_pos trivial]
  refine⟨f,fun u hu=> ?_,⟨by rw[f0];exact i2,by rw[f0];exact i3,by rw[f0,f1,f2]⟩,?_⟩
  ·simp only[f]
   by_cases c0:u=vs.getD 0 0
   ·rw[if_pos c0,c0];exact i1
   rw[if_neg c0]
   by_cases c1:u=vs.getD 1 0
   ·rw[if_pos c1,c1];exact y2
   rw[if_neg c1]
   by_cases c2:u=vs.getD (i.toNat+2) 0
   ·rw[if_pos c2,c2];exact y1
   rw[if_neg c2]
   by_cases c3:u=v
   ·rw[if_pos c3,c3];exact hx
   ·rw[if_neg c3];exact Classical.choose_spec (hg u) hu
  ·simp only[f]
   by_cases c0:v=vs.getD 0 0
   ·rw[if_pos c0];exact(e0 c0).symm
   rw[if_neg c0]
   by_cases c1:v=vs.getD 1 0
   ·rw[if_pos c1];exact(e1 c1).symm
   rw[if_neg c1]
   by_cases c2:v=vs.getD (i.toNat+2) 0
   ·rw[if_pos c2];exact(e2 c2).symm
   rw[if_neg c2,if_pos trivial]
theorem yl {n:Nat}{d:aa}{c:Con}(gd:GoodD n d)(hc:ConB c)(h:conR d c=0)(hk:c.kind=3):bK c d=qC d c:=by
 obtain⟨_,hv,hr,hin⟩:=di hc h
 have hu:usesR c=aT c.vars:=by unfold usesR;rw[if_neg (by omega)]
 have hrr:c.vars.Nodup∧3≤c.vars.length:=by
  unfold rightR at hr
  rw[if_neg (by omega),if_neg (by omega),if_neg (by omega),if_pos hk]at hr
  simp only[manyR,Bool.and_eq_true,decide_eq_true_eq]at hr
  exact⟨hr.1.2.2,hr.2⟩
 obtain⟨hnod,h3⟩:=hrr
 have hnd:(usesR c).Nodup:=dw (bW _)
 have hmem: ∀u,u∈usesR c↔u∈c.vars:=fun u=>by rw[hu];exact bH u _
 have hP: ∀f:Int→Int,bS c (ex d.length (usesR c) ((usesR c).map f) (usesR c).length)=true↔w5 c.vars f:=fun f=>by
  have hpk:aY c.vars (ex d.length (usesR c) ((usesR c).map f) (usesR c).length)=c.vars.map f:=List.map_congr_left fun v hv=>li f hin ((hmem v).2 hv)
  unfold bS
  rw[if_neg (by omega),if_neg (by omega),if_neg (by omega),if_pos hk,hpk]
  exact yo h3 f
 have h0: ∀u∈c.vars,0≤u∧u.toNat<n:=fun u hu=>by have:=hv.2 u hu;rwa[gd.len]at this
 have hS: ∀v∈c.vars,∀x,o6 d (usesR c) (fun t=>bS c (ex d.length (usesR c) t (usesR c).length)) v x↔∃i y,i∈elemPl d c.vars∧y∈vals (elemM d c.vars i)∧x∈vals (domAt d v)∧(v=c.vars.getD 0 0→x=i)∧(v=c.vars.getD 1 0→x=y)∧(v=c.vars.getD (i.toNat+2) 0→x=y):=fun v hvm x=>by
  rw[←yk gd hnod h3 h0 hvm x]
  constructor
  ·rintro⟨f,h1,h2,h4⟩
   exact⟨f,fun u hu=>h1 u ((hmem u).2 hu),(hP f).1 h2,h4⟩
  ·rintro⟨f,h1,h2,h4⟩
   exact⟨f,fun u hu=>h1 u ((hmem u).1 hu),(hP f).2 h2,h4⟩
 unfold bK qC
 rw[if_neg (by omega),if_neg (by omega),if_neg (by omega),if_neg (by omega),if_neg gd.some']
 unfold k7
 rw[if_neg gd.some']
 generalize (fun t=>bS c (ex d.length (usesR c) t (usesR c).length))=P at hS⊢
 generalize usesR c=us at*
 have hlin: ∀u,u∈us→0≤u∧u.toNat<d.length:=hin
 clear hP h hu hr hc hk
 generalize c.vars=vs at*
 have dne: ∀j k,j<vs.length→k<vs.length→j≠k→(vs.getD j 0).toNat≠(vs.getD k 0).toNat:=fun j k hj hk e2 e=>e2 (iW hnod hj hk (by have:=(h0 _ (cT hj)).1;have:=(h0 _ (cT hk)).1;omega))
 by_cases hl:elemPl d vs=[]
 ·rw[if_pos hl]
  refine if_pos ?_
  have hv0:vs.getD 0 0∈vs:=cT (by omega)
  have hz:=h0 _ hv0
  obtain⟨y,hy,hok,hx⟩:=(kF (P:=P) hnd hlin (vs.getD 0 0).toNat).2 (by rw[Int.toNat_of_nonneg hz.1];exact(hmem _).2 hv0)
  have:y=[]:=(eZ hok).1 (List.eq_nil_iff_forall_not_mem.2 fun x hxm=>by
   have:=(hx x).1 hxm
   rw[Int.toNat_of_nonneg hz.1,hS _ hv0,hl]at this
   obtain⟨i,_,h,_⟩:=this
   cases h)
  rw[this]at hy
  exact List.mem_of_getElem? hy
 ·rw[if_neg hl]
  obtain⟨m1,m2⟩:=oQ gd vs (elemPl d vs)
  have hlu:Up (elemPl d vs):=(aE (gd.dok _)).filter _
  have hlv: ∀v∈elemPl d vs,-1048576≤v∧v≤1048576:=fun v hv=>(gd.few.at _).2.2 v (List.mem_filter.1 hv).1
  have hll:(elemPl d vs).length≤4096:=Nat.le_trans (List.length_filter_le _ _) (gd.few.at _).1
  have hpl:=fun i=>ii gd vs i
  have hof:=qD hlu hlv hll
  have hln:=dw hlu
  have hmne: ∀i∈elemPl d vs,∃y,y∈vals (elemM d vs i):=fun i hi=>((hpl i).1 hi).2.2.2
  have hmay:elemMay d vs (elemPl d vs)≠[]:=fun e=>by
   obtain⟨i,hi⟩:=List.exists_mem_of_ne_nil _ hl
   obtain⟨y,hy⟩:=hmne i hi
   have:=(m2 y).2 ⟨i,hi,hy⟩
   rw[e]at this;cases this
  have hpk:cW (elemPl d vs)≠[]:=fun e=>hl (by rw[←bG hlu,e];rfl)
  have hxx: ∀v x i y,y∈vals (elemM d vs i)→(v=vs.getD 1 0→x=y)→v=vs.getD 1 0→x∈vals (elemM d vs i):=fun v x i y hy e hv=>by rw[e hv];exact hy
  unfold rD
  rw[hof]
  generalize elemMay d vs (elemPl d vs)=may at*
  generalize hpe:elemPl d vs=l at*
  have hsz: ∀o:aa,(if l.length=1 then((d.set (vs.getD 0 0).toNat (cW l)).set (vs.getD 1 0).toNat may).set (vs.getD ((l.getD 0 0).toNat+2) 0).toNat may else(d.set (vs.getD 0 0).toNat (cW l)).set (vs.getD 1 0).toNat may)=o→o.length=d.length:=fun o e=>by rw[←e];split<;>simp
  generalize hO:(if l.length=1 then((d.set (vs.getD 0 0).toNat (cW l)).set (vs.getD 1 0).toNat may).set (vs.getD ((l.getD 0 0).toNat+2) 0).toNat may else(d.set (vs.getD 0 0).toNat (cW l)).set (vs.getD 1 0).toNat may)=out
  have hlen:=hsz out hO
  have hd0:=fun j (hj:j<vs.length)=>(hlin _ ((hmem _).2 (cT hj))).2
  have hi0:l.length=1→l.getD 0 0∈l:=fun e=>by rw[aM (by omega)];exact List.getElem_mem _
  have hb0:l.length=1→(l.getD 0 0).toNat+2<vs.length:=fun e=>((hpl _).1 (hi0 e)).2.2.1
  have hat: ∀j,j<vs.length→domAt out (vs.getD j 0)=if j=0 then cW l else if j=1 then may else if l.length=1∧j=(l.getD 0 0).toNat+2 then may else domAt d (vs.getD j 0):=fun j hj=>by
   rw[←hO]
   by_cases hl1:l.length=1
   ·rw[if_pos hl1,fB (by simp;exact hd0 _ (hb0 hl1)),fB (by simp;exact hd0 1 (by omega)),fB (hd0 0 (by omega))]
    by_cases c2:j=(l.getD 0 0).toNat+2
    ·rw[if_pos (by rw[c2]),if_neg (by omega),if_neg (by omega),if_pos ⟨hl1,c2⟩]
    ·rw[if_neg (dne _ _ (hb0 hl1) hj (Ne.symm c2)),if_neg (c:=l.length=1∧_) (fun h=>c2 h.2)]
     by_cases c1:j=1
     ·rw[if_pos (by rw[c1]),if_neg (by omega),if_pos c1]
     ·rw[if_neg (dne _ _ (by omega) hj (Ne.symm c1)),if_neg c1]
      by_cases c0:j=0
      ·rw[if_pos (by rw[c0]),if_pos c0]
      ·rw[if_neg (dne _ _ (by omega) hj (Ne.symm c0)),if_neg c0]
   ·rw[if_neg hl1,fB (by simp;exact hd0 1 (by omega)),fB (hd0 0 (by omega)),if_neg (c:=l.length=1∧_) (fun h=>hl1 h.1)]
    by_cases c1:j=1
    ·rw[if_pos (by rw[c1]),if_neg (by omega),if_pos c1]
    ·rw[if_neg (dne _ _ (by omega) hj (Ne.symm c1)),if_neg c1]
     by_cases c0:j=0
     ·rw[if_pos (by rw[c0]),if_pos c0]
     ·rw[if_neg (dne _ _ (by omega) hj (Ne.symm c0)),if_neg c0]
  have hms: ∀x∈out,x=cW l∨x=may∨x∈d:=fun x hx=>by
   rw[←hO]at hx
   split at hx
   ·rcases List.mem_or_eq_of_mem_set hx with hx|hx
    ·rcases List.mem_or_eq_of_mem_set hx with hx|hx
     ·rcases List.mem_or_eq_of_mem_set hx with hx|hx
      ·exact .inr (.inr hx)
      ·exact .inl hx
     ·exact .inr (.inl hx)
    ·exact .inr (.inl hx)
   ·rcases List.mem_or_eq_of_mem_set hx with hx|hx
    ·rcases List.mem_or_eq_of_mem_set hx with hx|hx
     ·exact .inr (.inr hx)
     ·exact .inl hx
    ·exact .inr (.inl hx)
  rw[m8 (out:=out) hnd hlin hlen (fun x hx=> ?_) (fun v hvm x=> ?_) (fun i hi=> ?_)]
  ·unfold mi
   rw[if_neg]
   intro hm
   rcases hms _ hm with e|e|e
   ·exact hpk e.symm
   ·exact hmay e.symm
   ·exact gd.some' e
  ·rcases hms x hx with rfl|rfl|hx
   ·exact fU hlu
   ·exact m1
   ·exact(gd.few.fine x hx).ok
  ·have hvc:=(hmem v).1 hvm
   rw[hS v hvc]
   have hj:vs.idxOf v<vs.length:=List.idxOf_lt_length_iff.2 hvc
   have hve:v=vs.getD (vs.idxOf v) 0:=by rw[aM hj,List.getElem_idxOf]
   generalize vs.idxOf v=j at hj hve
   subst hve
   have hvi: ∀k,k<vs.length→(vs.getD j 0=vs.getD k 0↔j=k):=fun k hk=>⟨iW hnod hj hk,fun e=>by rw[e]⟩
   rw[hat j hj]
   by_cases c0:j=0
   ·subst c0
    rw[if_pos rfl,bG hlu]
    constructor
    ·intro hx
     obtain⟨y,hy⟩:=hmne x hx
     obtain⟨a1,a2,a3,_⟩:=(hpl x).1 hx
     exact⟨x,y,hx,hy,a1,fun _=>rfl,fun e=>by rw[hvi 1 (by omega)]at e;omega,fun e=>by rw[hvi _ a3]at e;omega⟩
    ·rintro⟨i,y,hi,_,_,e,_⟩
     rw[e rfl];exact hi
   rw[if_neg c0]
   by_cases c1:j=1
   ·subst c1
    rw[if_pos rfl,m2]
    constructor
    ·rintro⟨i,hi,hx⟩
     obtain⟨a1,a2,a3,_⟩:=(hpl i).1 hi
     exact⟨i,x,hi,hx,(((d6 gd vs i).2 x).1 hx).2,fun e=>absurd ((hvi 0 (by omega)).1 e) (by omega),fun _=>rfl,fun e=>absurd ((hvi _ a3).1 e) (by omega)⟩
    ·rintro⟨i,y,hi,hy,_,_,e,_⟩
     exact⟨i,hi,by rw[e rfl];exact hy⟩
   rw[if_neg c1]
   by_cases hl1:l.length=1
   ·have hone: ∀i∈l,i=l.getD 0 0:=fun i hi=>by
     obtain⟨z,rfl⟩:=List.length_eq_one_iff.1 hl1
     rw[List.mem_singleton.1 hi];rfl
    by_cases c2:j=(l.getD 0 0).toNat+2
    ·rw[if_pos ⟨hl1,c2⟩,m2]
     constructor
     ·rintro⟨i,hi,hx⟩
      obtain⟨a1,a2,a3,_⟩:=(hpl i).1 hi
      have:=hone i hi
      exact⟨i,x,hi,hx,by have:=(((d6 gd vs i).2 x).1 hx).1;rw[c2,←hone i hi];exact this,fun e=>by rw[hvi 0 (by omega)]at e;omega,fun _=>rfl,fun _=>rfl⟩
     ·rintro⟨i,y,hi,hy,_,_,_,e⟩
      exact⟨i,hi,by rw[e (by rw[c2,hone i hi])];exact hy⟩
    ·rw[if_neg fun h=>c2 h.2]
     constructor
     ·intro hx
      obtain⟨y,hy⟩:=hmne _ (hi0 hl1)
      exact⟨_,y,hi0 hl1,hy,hx,fun e=>by rw[hvi 0 (by omega)]at e;omega,fun e=>by rw[hvi 1 (by omega)]at e;omega,fun e=>by rw[hvi _ (hb0 hl1)]at e;omega⟩
     ·rintro⟨i,y,_,_,hx,_⟩
      exact hx
   ·rw[if_neg fun h=>hl1 h.1]
    constructor
    ·intro hx
     have: ∃i∈l,i.toNat+2≠j:=by
      match l,hl,hl1,hln,hpl with
      | [],hl,_,_,_=>exact absurd rfl hl
      | [z],_,h1,_,_=>exact absurd rfl h1
      |z::t::_,_,_,hln,hpl=>
       by_cases e:z.toNat+2=j
       ·refine⟨t,.tail _ (.head _),fun e2=> ?_⟩
        have a1:=((hpl z).1 (.head _)).2.1
        have a2:=((hpl t).1 (.tail _ (.head _))).2.1
        have:z=t:=by omega
        rw[this]at hln
        exact(List.nodup_cons.1 hln).1 (.head _)
       ·exact⟨z,.head _,e⟩
     obtain⟨i,hi,hne⟩:=this
     obtain⟨y,hy⟩:=hmne i hi
     exact⟨i,y,hi,hy,hx,fun e=>by rw[hvi 0 (by omega)]at e;omega,fun e=>by rw[hvi 1 (by omega)]at e;omega,fun e=>by rw[hvi _ ((hpl i).1 hi).2.2.1]at e;omega⟩
    ·rintro⟨i,y,_,_,hx,_⟩
     exact hx
  ·have hni: ∀k,k<vs.length→(vs.getD k 0).toNat≠i:=fun k hk e=>hi (by
    rw[←e,Int.toNat_of_nonneg (h0 _ (cT hk)).1];exact(hmem _).2 (cT hk))
   rw[←hO]
   by_cases hl1:l.length=1
   ·rw[if_pos hl1,List.getElem?_set_ne (hni _ (hb0 hl1)),List.getElem?_set_ne (hni 1 (by omega)),List.getElem?_set_ne (hni 0 (by omega))]
   ·rw[if_neg hl1,List.getElem?_set_ne (hni 1 (by omega)),List.getElem?_set_ne (hni 0 (by omega))]
set_option maxRecDepth 8000
theorem x5 {l:List (Int×Int)}(h: ∀r∈l,-1048576≤r.2∧r.2≤1048576): ∀r∈joinG l,-1048576≤r.2∧r.2≤1048576:=by
 revert h
 refine snocInd (P:=fun l=>(∀r∈l,-1048576≤r.2∧r.2≤1048576)→∀r∈joinG l,-1048576≤r.2∧r.2≤1048576) (fun _ r hr=>by simp[joinG]at hr) (fun l x ih h=> ?_) l
 have ih:=ih fun r hr=>h r (List.mem_append_left _ hr)
 have hx:=h x (List.mem_append_right _ (.head _))
 rw[hI]
 rcases List.eq_nil_or_concat (joinG l)with e|⟨o,r,e⟩
 ·rw[e,jh]
  intro r hr
  rw[List.mem_singleton.1 hr];exact hx
 ·rw[e,List.concat_eq_append]at ih⊢
  rw[g9]
  have hr:=ih r (List.mem_append_right _ (.head _))
  split
  ·intro s hs
   rcases List.mem_append.1 hs with hs|hs
   ·exact ih s (List.mem_append_left _ hs)
   ·rw[List.mem_singleton.1 hs];simp only;omega
  ·intro s hs
   rcases List.mem_append.1 hs with hs|hs
   ·exact ih s hs
   ·rw[List.mem_singleton.1 hs];exact hx
set_option maxHeartbeats 2000000 in
theorem vW (a b:List (Int×Int))(hl:(a.length+b.length+1)*16≤140737488355328)(hb: ∀r∈a++b,-1048576≤r.1∧r.1≤1048576∧-1048576≤r.2∧r.2≤1048576):
  Spec Tryz.prog 190 false [dm a,dm b] [.own 53 2 ((oz a b).map cR)]:=by
 refine Spec.body Tryz.func190 rfl rfl rfl fun w0 Z0=> ?_
 have hso:=nA (l:=a++b) fun r hr=>by have:=hb r hr;omega
 have hspec:=sk (a++b) (by simp;omega) fun r hr=>by have:=hb r hr;omega
 have hsb: ∀r∈sortR (a++b),-1048576≤r.1∧r.1≤1048576∧-1048576≤r.2∧r.2≤1048576:=fun r hr=>hb r (hso.1.mem_iff.1 hr)
 have hsl:(sortR (a++b)).length=a.length+b.length:=by rw[hso.1.length_eq];simp
 show T _ _ _ _
 unfold oz
 generalize sortR (a++b)=l at*
 refine .B ?_
 refine .C (bN a (by omega)) ?_
 refine .B ?_
 refine J.am (enc:=cR) (l:=a) (l2:=b) (B:=16) rfl rfl rfl rfl rfl rfl rfl rfl rfl rfl rfl rfl rfl rfl rfl rfl rfl (fun _=>rfl) rfl (by omega) ?_
 refine .B ?_
 refine J.cm rfl rfl rfl rfl rfl rfl rfl rfl rfl hspec rfl rfl rfl ?_
 refine .B ?_
 refine T.sub (Rel.own0 (s:=6) 53 2 rfl) ?_
 refine T.sub (Rel.flat (o:=1) rfl ry) ?_
 refine T.K (T.list l (fun n pre post=>⟨[(6,.ref 0),(16,.ref 1),(17,.val true (.int .i64 (l.map cR).length)),(18,.val true (.int .i64 n))],[(0,some (.sl 53 2 true ((joinG pre).map cR))),(1,some (.sl 53 2 true (l.map cR)))],2⟩) (fun _ _ h=>h) ?_ ?_)
 ·rintro n pre ⟨x1,x2⟩ post h hn ih
  have hlt:=bZ h hn
  have hpl:=x6 pre
  have hpn:pre.length≤l.length:=by rw[h];simp
  have hx:=hsb (x1,x2) (by rw[h];simp)
  simp only at hx
  have hpb: ∀r∈joinG pre,-1048576≤r.2∧r.2≤1048576:=x5 fun r hr=>by have:=hsb r (by rw[h];simp[hr]);omega
  rw[hI]at ih
  refine .B ?_
  refine T.ct2 rfl (bY h hn) ?_
  refine .B ?_
  refine J.io rfl rfl rfl rfl rfl rfl rfl rfl rfl (by omega) (by simp;omega) rfl ?_
  refine .B ?_
  refine J.lo rfl rfl rfl rfl rfl rfl (r:=cR (x1,x2)) (aP h hn) rfl ?_
  refine .B ?_
  refine .L ?_
  refine .W ?_
  refine .B ?_
  have hw1:=aj hlt (by omega)
  have hby:((joinG pre).length+1)*16≤140737488355328:=by omega
  generalize joinG pre=out at*
  rcases List.eq_nil_or_concat out with rfl|⟨o,⟨a,b⟩,rfl⟩
  ·rw[jh]at ih
   refine J.g rfl rfl rfl (fun h2=> ?_) (fun h2=> ?_)
   ·simp at h2
   refine .B ?_
   refine T.cf rfl ?_
   refine .B ?_
   refine .V ?_
   refine .B ?_
   refine J.aR rfl rfl rfl rfl rfl rfl rfl rfl rfl rfl rfl rfl rfl rfl rfl rfl rfl rfl rfl (by simp) ?_
   refine .B ?_
   rw[aj hlt (by omega)]
   exact T.K ih
  ·rw[List.concat_eq_append]at*
   rw[g9]at ih
   have hab:=hpb (a,b) (by simp)
   simp only at hab
   have hw2:IntKind.i64.wrap (b+1)=b+1:=ac (by omega) (by omega)
   refine J.g rfl rfl rfl (fun h2=> ?_) (fun h2=> ?_)
   rotate_left
   ·simp at h2
   have hlw:IntKind.i64.wrap (((((o++[(a,b)]).map cR).length:Nat):Int)-1)=(o.length:Int):=by
    rw[List.length_map,List.length_append,ac]<;>simp at* <;>omega
   have hro:((o++[(a,b)]).map cR)[((o.length:Nat):Int).toNat]? =some (cR (a,b)):=by simp
   refine .B ?_
   rw[hlw]
   refine J.io rfl rfl rfl rfl rfl rfl rfl rfl rfl (Int.natCast_nonneg _) (by simp) rfl ?_
   refine .B ?_
   refine J.lo rfl rfl rfl rfl rfl rfl (r:=cR (a,b)) hro rfl ?_
   refine .B ?_
   rw[hw2]
   refine T.cd rfl (fun h3=> ?_) (fun h3=> ?_)
   ·rw[if_pos h3]at ih
    refine .B ?_
    refine T.rdw 12 rfl (by kernel_rfl) rfl ?_
    refine .B ?_
    rw[hlw]
    refine J.io rfl rfl rfl rfl rfl rfl rfl rfl rfl (Int.natCast_nonneg _) (by simp) rfl ?_
    refine .B ?_
    refine J.lo rfl rfl rfl rfl rfl rfl (r:=cR (a,b)) hro rfl ?_
    refine .B ?_
    refine⟨rfl,?_⟩
    refine J.io rfl rfl rfl rfl rfl rfl rfl rfl rfl (Int.natCast_nonneg _) (by simp) rfl ?_
    refine .B ?_
    refine J.w rfl rfl rfl rfl rfl rfl rfl rfl rfl (sQ o a b (max b x2)) ?_
    refine .B ?_
    rw[hw1]
    exact T.K ih
   ·rw[if_neg h3]at ih
    refine .B ?_
    refine .V ?_
    refine .B ?_
    refine J.aR rfl rfl rfl rfl rfl rfl rfl rfl rfl rfl rfl rfl rfl rfl rfl rfl rfl rfl rfl (l:=o++[(a,b)]) (a:=x1) (b:=x2) hby ?_
    refine .B ?_
    rw[hw1]
    exact T.K ih
 ·refine .B ?_
  refine T.cf2 rfl bl ?_
  refine .B ?_
  exact⟨_,.o rfl rfl rfl (fun _=> .inl rfl) (by simp) .nil⟩
theorem mH {p:Int→Bool}{f:FuncId}(caps:List PV)(l:List Int)(hp: ∀v∈l,Spec Tryz.prog f false (.int .i64 v::caps) [.val (.bool (p v))])(hl:l.length*8≤140737488355328):Spec Tryz.prog 169 false [aA l,.fn (.func f) [] caps] [.val (.int .i64 (indexP p l))]:=by
 refine Spec.body Tryz.func169 rfl rfl rfl fun w0 Z0=> ?_
 refine .B ?_
 refine T.K (T.listI l (fun pre=> ∀v∈pre,p v=false) (fun n pre post=>⟨[(0,.val false (aA l)),(1,.val false (.fn (.func f) [] caps)),(7,.val true (.int .i64 (l.map cI).length)),(8,.val true (.int .i64 n))],[],0⟩) (fun _ _ h=>h) (fun v hv=>by cases hv) ?_ ?_)
 ·rintro n pre v post h hn hi ih
  have hlt:=bZ h hn
  have hsp:=hp v (by rw[h];simp)
  refine .B ?_
  refine T.ct2 rfl (bY h hn) ?_
  refine .B ?_
  refine .I (r:=cI v) (aP h hn) ?_
  refine .B ?_
  refine .C hsp ?_
  refine .B ?_
  refine T.cond rfl (fun h2=> ?_) (fun h2=> ?_)
  ·have h2:p v=true:=h2
   refine .B ?_
   have e:indexP p l=(n:Int):=by
    unfold indexP
    rw[h,List.findIdx?_append,List.findIdx?_eq_none_iff.2 (by simpa using hi),List.findIdx?_cons,if_pos h2]
    simp[hn]
   rw[e]
   exact r1
  ·have h2:p v=false:=h2
   refine .B ?_
   rw[aj hlt (by omega)]
   exact T.K (ih (by
    intro x hx
    rcases List.mem_append.1 hx with hx|hx
    ·exact hi x hx
    ·rw[List.mem_singleton.1 hx];exact h2))
 ·intro hi
  have e:indexP p l= -1:=by
   unfold indexP
   rw[List.findIdx?_eq_none_iff.2 (by simpa using hi)]
  rw[e]
  refine .B ?_
  refine T.cf2 rfl bl ?_
  refine .B ?_
  exact r1
theorem rv (p:Int→Bool)(l:List Int):(indexP p l= -1∧∀v∈l,p v=false)∨∃i:Nat,i<l.length∧indexP p l=(i:Int)∧p (l.getD i 0)=true∧∀v∈l.take i,p v=false:=by
 unfold indexP
 cases h:l.findIdx? p with
 |none=>exact .inl ⟨rfl,by simpa using List.findIdx?_eq_none_iff.1 h⟩
 |some i=>
  obtain⟨h1,h2,h3⟩:=List.findIdx?_eq_some_iff_getElem.1 h
  refine .inr ⟨i,h1,rfl,by rw[aM h1];exact h2,fun v hv=> ?_⟩
  obtain⟨j,hj⟩:=List.getElem?_of_mem hv
  have hjl:=(List.getElem?_eq_some_iff.1 hj).1
  have hji:j<i:=by simp at hjl;omega
  have:=h3 j hji
  rw[List.getElem?_take_of_lt hji,List.getElem?_eq_getElem (by omega)]at hj
  rw[←Option.some.inj hj]
  simpa using this
structure DelInv (p:Int→Bool)(l:List Int)(j:Nat)(L:List Int):Prop where
 len:L.length=l.length
 le:j≤l.length
 lt:((l.take j).filter fun x=> !p x).length<j
 tk:L.take ((l.take j).filter fun x=> !p x).length=(l.take j).filter fun x=> !p x
 dr:L.drop j=l.drop j
theorem DelInv.at {p:Int→Bool}{l L:List Int}{j:Nat}(h:DelInv p l j L)(hj:j<l.length):L.getD j 0=l.getD j 0:=by
 have h1:=h.dr
 have hL:=h.len
 rw[List.drop_eq_getElem_cons (by omega),List.drop_eq_getElem_cons hj]at h1
 rw[aM (by omega),aM hj]
 exact(List.cons.inj h1).1
theorem DelInv.step {p:Int→Bool}{l L:List Int}{j:Nat}(h:DelInv p l j L)(hj:j<l.length):
  (p (l.getD j 0)=true→DelInv p l (j+1) L∧((l.take (j+1)).filter fun x=> !p x).length=((l.take j).filter fun x=> !p x).length)∧
  (p (l.getD j 0)=false→DelInv p l (j+1) (L.set ((l.take j).filter fun x=> !p x).length (l.getD j 0))∧((l.take (j+1)).filter fun x=> !p x).length=((l.take j).filter fun x=> !p x).length+1):=by
 obtain⟨h1,h2,h3,h4,h5⟩:=h
 have ht:l.take (j+1)=l.take j++[l.getD j 0]:=by rw[List.take_succ_eq_append_getElem hj,aM hj]
 have hd:L.drop (j+1)=l.drop (j+1):=by
  have:=congrArg (List.drop 1) h5
  rwa[List.drop_drop,List.drop_drop]at this
 refine⟨fun hp=> ?_,fun hp=> ?_⟩
 ·have e:(l.take (j+1)).filter (fun x=> !p x)=(l.take j).filter fun x=> !p x:=by rw[List.getD_eq_getElem?_getD]at hp;rw[ht,List.filter_append];simp[hp]
  exact⟨⟨h1,hj,by rw[e];omega,by rw[e];exact h4,hd⟩,by rw[e]⟩
 ·have e:(l.take (j+1)).filter (fun x=> !p x)=((l.take j).filter fun x=> !p x)++[l.getD j 0]:=by rw[List.getD_eq_getElem?_getD]at hp;rw[ht,List.filter_append];simp[hp]
  refine⟨⟨by simpa using h1,hj,by rw[e];simp;omega,?_,?_⟩,by rw[e];simp⟩
  ·rw[e,List.length_append,List.length_singleton,List.take_succ_eq_append_getElem (by simp;omega),List.getElem_set_self,List.take_set_of_le (Nat.le_refl _),h4]
  ·rw[List.drop_set_of_lt (by omega)]
   exact hd
theorem rE {p:Int→Bool}{f:FuncId}(caps:List PV)(l:List Int)(hp: ∀v∈l,Spec Tryz.prog f false (.int .i64 v::caps) [.val (.bool (p v))])(hl:l.length*8≤140737488355328):
  SpecP Tryz.prog 187 [] [] 3 1 (l.map cI) [.fn (.func f) [] caps] ((l.filter fun x=> !p x).map cI):=by
 refine SpecP.body Tryz.func187 rfl rfl rfl (fun r hr q hq=>by obtain⟨x,_,rfl⟩:=List.mem_map.1 hr;simp[cI]at hq;rw[hq];rfl) fun w0 v0 Z1=> ?_
 have hix:=mH caps l hp hl
 have hcs:=rv p l
 generalize indexP p l=i0 at*
 refine .B ?_
 refine .C hix ?_
 refine .B ?_
 rcases hcs with ⟨rfl,hall⟩|⟨i,hi,rfl,hpi,hbe⟩
 ·refine T.ct rfl ?_
  refine .B ?_
  rw[List.filter_eq_self.2 (fun x hx=>by rw[hall x hx];rfl)]
  exact⟨4,0,rfl,rfl,rfl⟩
 ·refine T.cf2 rfl (decide_eq_false (by omega)) ?_
  have hf0:(l.take i).filter (fun x=> !p x)=l.take i:=List.filter_eq_self.2 (fun x hx=>by rw[hbe x hx];rfl)
  have hf1:(l.take (i+1)).filter (fun x=> !p x)=l.take i:=by
   rw[List.getD_eq_getElem?_getD]at hpi;rw[List.take_succ_eq_append_getElem hi,List.filter_append,hf0,←aM hi];simp[hpi]
  have hinv:DelInv p l (i+1) l:=⟨rfl,hi,by rw[hf1];simp;omega,by rw[hf1];simp[Nat.min_eq_left (Nat.le_of_lt hi)],rfl⟩
  refine .B ?_
  rw[aj hi hl]
  refine T.K (T.ind (fun s:Nat×Nat×List Int=>⟨[(0,.ref 0),(1,.val false (.fn (.func f) [] caps)),(5,.val true (.int .i64 s.2.1)),(6,.val true (.int .i64 s.1))],[(0,some (.sl 3 1 true (s.2.2.map cI)))],1⟩)
   (fun s=>DelInv p l s.1 s.2.2∧s.2.1=((l.take s.1).filter fun x=> !p x).length) (fun s=>l.length-s.1) (i+1,i,l) ⟨hinv,by simp only;rw[hf1];simp;omega⟩ (fun _ _ h=>h) ?_)
  rintro⟨j,k,L⟩ ⟨hinv,hk⟩ ih
  simp only at hinv hk
  dsimp only
  have hle:=hinv.le
  have hlen:=hinv.len
  have hlt:=hinv.lt
  rw[←hk]at hlt
  refine .B ?_
  refine T.cd rfl (fun h6=> ?_) (fun h6=> ?_)
  ·have h6:j<l.length:=by simp at h6;omega
   have hrow:(L.map cI)[((j:Nat):Int).toNat]? =some (cI (l.getD j 0)):=by
    rw[←hinv.at h6,aM (by omega)];exact bq (by omega)
   obtain⟨hs1,hs2⟩:=hinv.step h6
   have hsp:=hp (l.getD j 0) (by rw[aM h6];exact List.getElem_mem _)
   have hw1:IntKind.i64.wrap ((j:Int)+1)=((j+1:Nat):Int):=aj h6 hl
   have hw2:IntKind.i64.wrap ((k:Int)+1)=((k+1:Nat):Int):=aj (l:=l.length) (by omega) hl
   have ih1:=fun k2 L2 h1 h2=>ih (j+1,k2,L2) ⟨h1,h2⟩ (by show _-_<_-_;omega)
   rw[←hk]at hs1 hs2
   refine .B ?_
   refine J.io rfl rfl rfl rfl rfl rfl rfl rfl rfl (by omega) (by simp;omega) rfl ?_
   refine .B ?_
   refine J.lo rfl rfl rfl rfl rfl rfl (r:=cI (l.getD j 0)) hrow rfl ?_
   refine .B ?_
   refine .C hsp ?_
   refine .B ?_
   cases hpv:p (l.getD j 0)with
   |true=>
    obtain⟨a1,a2⟩:=hs1 hpv
    refine T.cf rfl ?_
    refine .B ?_
    rw[hw1]
    exact T.K (ih1 k L a1 a2.symm)
   |false=>
    obtain⟨a1,a2⟩:=hs2 hpv
    refine T.ct rfl ?_
    refine .B ?_
    refine J.io rfl rfl rfl rfl rfl rfl rfl rfl rfl (by omega) (by simp;omega) rfl ?_
    refine .B ?_
    refine J.w1 rfl rfl rfl rfl rfl rfl rfl rfl rfl rfl rfl (enc:=cI) (z:=l.getD j 0) (fun _=>rfl) (by simp;omega) ?_
    refine .B ?_
    rw[hw1,hw2]
    exact T.K (ih1 (k+1) _ a1 a2.symm)
  ·have h6:j=l.length:=by simp at h6;omega
   have htk:=hinv.tk
   subst h6
   rw[←hk]at htk
   rw[List.take_length]at htk
   refine .B ?_
   refine J.clr (l:=L) k rfl rfl rfl rfl rfl rfl rfl (by omega) rfl rfl rfl (fun w=>by kernel_rfl) rfl rfl rfl rfl (fun _=>rfl) fun u=> ?_
   refine .B ?_
   refine J.cut (l:=L.take k++List.replicate (L.length-k) 0) k rfl rfl rfl rfl rfl rfl rfl (by simp;omega) rfl rfl ?_
   refine .B ?_
   rw[show(L.take k++List.replicate (L.length-k) (0:Int)).take k=l.filter fun x=> !p x by rw[List.take_append_of_le_length (by simp;omega),List.take_take,Nat.min_self,htk]]
   exact⟨4,1,rfl,rfl,rfl⟩
def clP (d:aa)(c:Con)(us t:List Int):Bool:=bS c (ex d.length us t us.length)
theorem wP {x k:Int}(hk:k=1∨k= -1):Ax (x,k)=true↔x=dz k:=by
 rcases hk with rfl|rfl
 ·rw[BR];simp[Ax]
 ·rw[BQ];simp[Ax]
theorem AQ {d:aa}{c:Con}(h:ClOk d c)(hk:c.kind=5)(f:Int→Int):clP d c (aT c.vars) ((aT c.vars).map f)=true↔∃p∈c.vars.zip c.coefs,f p.1=dz p.2:=by
 have hin: ∀u∈aT c.vars,0≤u∧u.toNat<d.length:=fun u hu=>h.vin u ((bH u _).1 hu)
 have hat: ∀v∈c.vars,atR (ex d.length (aT c.vars) ((aT c.vars).map f) (aT c.vars).length) v=f v:=fun v hv=>li f hin ((bH v _).2 hv)
 have hp:aY c.vars (ex d.length (aT c.vars) ((aT c.vars).map f) (aT c.vars).length)=c.vars.map f:=List.map_congr_left fun v hv=>hat v hv
 unfold clP bS
 rw[if_neg (by omega),if_neg (by omega),if_neg (by omega),if_neg (by omega),if_neg (by omega),if_pos hk,hp,List.any_eq_true]
 constructor
 ·rintro⟨q,hq,hl⟩
  obtain⟨i,hi⟩:=List.getElem?_of_mem hq
  rw[List.getElem?_zip_eq_some]at hi
  obtain⟨h1,h2⟩:=hi
  rw[List.getElem?_map]at h1
  obtain⟨v,hv,e⟩:=Option.map_eq_some_iff.1 h1
  refine⟨(v,q.2),List.mem_of_getElem? (i:=i) (List.getElem?_zip_eq_some.2 ⟨hv,h2⟩),?_⟩
  rw[show q=(q.1,q.2)from rfl,wP (h.unit _ (List.mem_of_getElem? h2))]at hl
  rw[←hl,←e]
 ·rintro⟨p,hp,e⟩
  obtain⟨i,hi⟩:=List.getElem?_of_mem hp
  rw[List.getElem?_zip_eq_some]at hi
  refine⟨(f p.1,p.2),List.mem_of_getElem? (i:=i) (List.getElem?_zip_eq_some.2 ⟨by rw[List.getElem?_map,hi.1];rfl,hi.2⟩),?_⟩
  rw[wP (h.unit _ (List.mem_of_getElem? hi.2))]
  exact e
theorem z7 {c:Con}(hn:c.vars.Nodup){p q:Int×Int}(hp:p∈c.vars.zip c.coefs)(hq:q∈c.vars.zip c.coefs)(h:p.1=q.1):p=q:=by
 obtain⟨i,hi⟩:=List.getElem?_of_mem hp
 obtain⟨j,hj⟩:=List.getElem?_of_mem hq
 have e:i=j:=by
  rw[List.getElem?_zip_eq_some]at hi hj
  obtain⟨h1,h2⟩:=List.getElem?_eq_some_iff.1 hi.1
  obtain⟨h3,h4⟩:=List.getElem?_eq_some_iff.1 hj.1
  exact(List.getElem_inj hn).1 (h2.trans (h.trans h4.symm))
 subst e
 exact Option.some.inj (hi.symm.trans hj)
theorem un {d:aa}{c:Con}(h:ClOk d c)(hk:c.kind=5)(hf: ∀x∈d,Fine x):k7 d (aT c.vars) (clP d c (aT c.vars))=ju d c:=by
 have hus: ∀u,u∈aT c.vars↔u∈c.vars:=fun u=>bH u _
 have hnd:(aT c.vars).Nodup:=dw (bW _)
 have hin: ∀u∈aT c.vars,0≤u∧u.toNat<d.length:=fun u hu=>h.vin u ((hus u).1 hu)
 have hP:=AQ h hk
 have hpv: ∀p∈c.vars.zip c.coefs,p.1∈c.vars:=fun p hp=>(List.of_mem_zip hp).1
 have hlb: ∀p,litB d p=true↔dz p.2∈vals (domAt d p.1):=fun p=>c8
 unfold k7
 rw[v7 h.len]
 by_cases hm: []∈d
 ·rw[if_pos hm,if_pos hm]
 rw[if_neg hm,if_neg hm]
 have hne: ∀v∈c.vars,∃x,x∈vals (domAt d v):=by
  intro v hv
  have hd:=hf _ (af (h.vin v hv).2)
  have:domAt d v≠[]:=fun e=>hm (e▸af (h.vin v hv).2)
  exact⟨_,fz hd.ok this⟩
 obtain⟨g,hg⟩: ∃g:Int→Int,∀v∈c.vars,g v∈vals (domAt d v):=⟨fun v=>aw (domAt d v),fun v hv=>fz (hf _ (af (h.vin v hv).2)).ok fun e=>hm (e▸af (h.vin v hv).2)⟩
 cases hL:(c.vars.zip c.coefs).filter (litB d)with
 |nil=>
  have hno: ∀p∈c.vars.zip c.coefs,litB d p=false:=fun p hp=>by
   have:=List.filter_eq_nil_iff.1 hL p hp
   simpa using this
  obtain⟨v,hv⟩: ∃v,v∈c.vars:=⟨c.vars[0]'h.pos,List.getElem_mem _⟩
  have hvi:=h.vin v hv
  obtain⟨y,hy,hyd,hyv⟩:=(kF (P:=clP d c (aT c.vars)) hnd hin v.toNat).2 (by rw[Int.toNat_of_nonneg hvi.1];exact(hus v).2 hv)
  have hy0:y=[]:=by
   refine(eZ hyd).1 (List.eq_nil_iff_forall_not_mem.2 fun x hx=> ?_)
   obtain⟨f,hf1,hf2,_⟩:=(hyv x).1 hx
   obtain⟨p,hp,e⟩:=(hP f).1 hf2
   have:=hf1 p.1 ((hus _).2 (hpv p hp))
   rw[e]at this
   have:=hno p hp
   rw[(hlb p).2 ‹_›]at this
   cases this
  subst hy0
  unfold mi
  rw[if_pos (List.mem_of_getElem? hy)]
  rfl
 |cons p l=>
  have hp:p∈c.vars.zip c.coefs∧litB d p=true:=List.mem_filter.1 (by rw[hL];exact .head _)
  have hpl:=(hlb p).1 hp.2
  have hpi:=h.vin _ (hpv p hp.1)
  have hpd:=hf _ (af hpi.2)
  cases l with
  |nil=>
   obtain⟨hc1,hc2⟩:=bM hpd.ok (dz p.2) (dz p.2)
   have hcv: ∀x,x∈vals (domCut (domAt d p.1) (dz p.2) (dz p.2))↔x=dz p.2:=fun x=>by
    rw[hc2]
    constructor
    ·rintro⟨_,h1,h2⟩;omega
    ·rintro rfl;exact⟨hpl,by omega,by omega⟩
   have hcn:domCut (domAt d p.1) (dz p.2) (dz p.2)≠[]:=fun e=>by
    have:=(hcv (dz p.2)).2 rfl
    rw[e]at this
    cases this
   have honly: ∀q∈c.vars.zip c.coefs,litB d q=true→q=p:=fun q hq hb=>by
    have:q∈(c.vars.zip c.coefs).filter (litB d):=List.mem_filter.2 ⟨hq,hb⟩
    rw[hL]at this
    simpa using this
   have hkeep:clF d [p]=some (d.set p.1.toNat (domCut (domAt d p.1) (dz p.2) (dz p.2))):=by
    show dA d p.1 (dz p.2)=_
    unfold dA
    rw[if_neg hcn]
   rw[hkeep,m8 (out:=d.set p.1.toNat (domCut (domAt d p.1) (dz p.2) (dz p.2))) hnd hin (by simp) ?_ ?_ ?_]
   ·unfold mi
    rw[if_neg fun hc=>hcn ((dF hpi.2 hm).1 hc)]
   ·intro x hx
    rcases List.mem_or_eq_of_mem_set hx with hx|rfl
    ·exact(hf x hx).ok
    ·exact hc1
   ·intro v hv x
    have hvc:=(hus v).1 hv
    have hvi:=h.vin v hvc
    rw[fB hpi.2]
    by_cases e:p.1.toNat=v.toNat
    ·have e2:p.1=v:=by omega
     rw[if_pos e,hcv]
     subst e2
     constructor
     ·rintro rfl
      refine⟨fun u=>if u=p.1 then dz p.2 else g u,fun u hu=> ?_,(hP _).2 ⟨p,hp.1,if_pos rfl⟩,if_pos rfl⟩
      by_cases e3:u=p.1
      ·simp only[e3,if_true];exact hpl
      ·simp only[e3,if_false];exact hg u ((hus u).1 hu)
     ·rintro⟨f,hf1,hf2,rfl⟩
      obtain⟨q,hq,e3⟩:=(hP f).1 hf2
      have:=hf1 q.1 ((hus _).2 (hpv q hq))
      rw[e3]at this
      have:=honly q hq ((hlb q).2 this)
      subst this
      exact e3
    ·have e2:p.1≠v:=fun e2=>e (by rw[e2])
     rw[if_neg e]
     constructor
     ·intro hx
      refine⟨fun u=>if u=p.1 then dz p.2 else if u=v then x else g u,fun u hu=> ?_,(hP _).2 ⟨p,hp.1,if_pos rfl⟩,by simp only[Ne.symm e2,if_false,if_true]⟩
      by_cases e3:u=p.1
      ·simp only[e3,if_true];exact hpl
      ·by_cases e4:u=v
       ·subst e4;simp only[e3,if_false,if_true];exact hx
       ·simp only[e3,e4,if_false];exact hg u ((hus u).1 hu)
     ·rintro⟨f,hf1,_,rfl⟩
      exact hf1 v hv
   ·intro i hi
    rw[List.getElem?_set_ne]
    rintro rfl
    exact hi (by rw[Int.toNat_of_nonneg hpi.1];exact(hus _).2 (hpv p hp.1))
  |cons q l=>
   have hq:q∈c.vars.zip c.coefs∧litB d q=true:=List.mem_filter.1 (by rw[hL];exact .tail _ (.head _))
   have hql:=(hlb q).1 hq.2
   have hpq:p.1≠q.1:=by
    intro e
    have e2:=z7 h.nod hp.1 hq.1 e
    have hz:(c.vars.zip c.coefs).Nodup:=by
     refine List.Pairwise.of_map (S:=(· ≠ ·)) Prod.fst (fun a b hne e=>hne (by rw[e])) ?_
     rw[List.map_fst_zip (by rw[h.len];exact Nat.le_refl _)]
     exact h.nod
    have:=hz.filter (litB d)
    rw[hL,e2]at this
    simp at this
   have hcl:clF d (p::q::l)=some d:=rfl
   rw[hcl,m8 (out:=d) hnd hin rfl (fun x hx=>(hf x hx).ok) ?_ (fun _ _=>rfl)]
   ·unfold mi;rw[if_neg hm]
   ·intro v hv x
    constructor
    ·intro hx
     obtain⟨r,hr,hrv⟩: ∃r,(r∈c.vars.zip c.coefs∧dz r.2∈vals (domAt d r.1))∧r.1≠v:=by
      by_cases e:p.1=v
      ·exact⟨q,⟨hq.1,hql⟩,fun e2=>hpq (e.trans e2.symm)⟩
      ·exact⟨p,⟨hp.1,hpl⟩,e⟩
     refine⟨fun u=>if u=r.1 then dz r.2 else if u=v then x else g u,fun u hu=> ?_,(hP _).2 ⟨r,hr.1,if_pos rfl⟩,by simp only[Ne.symm hrv,if_false,if_true]⟩
     by_cases e3:u=r.1
     ·simp only[e3,if_true];exact hr.2
     ·by_cases e4:u=v
      ·subst e4;simp only[e3,if_false,if_true];exact hx
      ·simp only[e3,e4,if_false];exact hg u ((hus u).1 hu)
    ·rintro⟨f,hf1,_,rfl⟩
     exact hf1 v hv
abbrev i6:=List (Int×List Int)
def mpU (u:i6):Own:= .mp true none (u.map fun p=>(Value.int .i64 p.1,aA p.2))
def iz (n:Nat)(o:bi):Option Nat:=(List.range n).find? fun i=>(lkA o (i:Int)).getD false
def l7 (rows:List (List PV))(ua uu:Value):Own:= .box true [.sl rows,.raw ua,.raw uu]
theorem xR (rows:List (List PV))(o:bi)(uq ua uu:Value)(hl:rows.length≤4611686018427387904):
  SpecO Tryz.prog 104 false [uq,ua] [l7 rows ua uu,mpS o] [.raw uq] [l7 rows ua uu,mpS (match iz rows.length o with
   |some i=>dlA o (i:Int)
   |none=>o)] (fun _=>[]) (fun _=>[.int .i64 ((iz rows.length o).getD 0:Nat),.bool (iz rows.length o).isSome]):=by
 refine SpecO.body [1001,1002] [] Tryz.func104 rfl rfl rfl rfl fun w0 Z1=> ?_
 refine T.sub (Rel.derawp (s:=0) (g:=1001) rfl rfl rfl) ?_
 refine .B ?_
 refine T.K (T.ind (fun i:Nat=>⟨[(0,.optr 0 0 0 0),(9,.val true (.int .i64 rows.length)),(10,.val true (.int .i64 i)),(1001,.eq uq 0),(1002,.eq ua 1)],[(0,some (l7 rows ua uu)),(1,some (mpS o))],2⟩)
  (fun i=>i≤rows.length∧∀j,j<i→(lkA o (j:Int)).getD false=false) (fun i=>rows.length-i) 0 ⟨by simp,fun j hj=>by omega⟩ (fun _ _ h=>h) ?_)
 rintro i ⟨hi,hb⟩ ih
 refine .B ?_
 refine T.cd rfl (fun h1=> ?_) (fun h1=> ?_)
 ·have h1:i<rows.length:=by simpa using h1
  refine .B ?_
  refine J.sub (Rel.deraw (s:=16) (g:=1002) rfl rfl) ?_
  refine .B ?_
  refine J.ml (i:Int) (.bool false) rfl rfl rfl rfl rfl rfl rfl rfl rfl yD (fun _ _=> .bool _) (mS Tryz.underlying3) (fun _ _ _ h=>c6 h) ?_
  have hmb:((lkA o (i:Int)).map PV.bool).getD (.bool false)= .bool ((lkA o (i:Int)).getD false):=by cases lkA o (i:Int)<;>rfl
  rw[hmb]
  by_cases hs:(lkA o (i:Int)).getD false=true
  ·have hn:iz rows.length o=some i:=by
    unfold iz
    rw[List.find?_range_eq_some]
    exact⟨hs,by simpa using h1,fun j hj=>by simpa using hb j hj⟩
   rw[hn,hs]
   refine .B ?_
   refine T.ct rfl ?_
   refine .B ?_
   refine J.sub (Rel.deraw (s:=22) (g:=1002) rfl rfl) ?_
   refine .B ?_
   refine J.dl (i:Int) rfl rfl rfl rfl rfl rfl rfl rfl rfl rfl (mS Tryz.underlying3) (fun _ _ _ h=>c6 h) ?_
   refine .B ?_
   exact⟨[0,1],[],[],⟨rfl,rfl,rfl,rfl,rfl,rfl,trivial⟩,trivial,rfl,.v rfl rfl rfl (fun _=>rfl) (.v rfl rfl rfl (fun _=>rfl) .nil)⟩
  ·rw[eq_false_of_ne_true hs]
   refine .B ?_
   refine T.cf rfl ?_
   refine .B ?_
   have hw:IntKind.i64.wrap ((i:Int)+1)=((i+1:Nat):Int):=by rw[ac (by omega) (by omega)];omega
   rw[hw]
   refine T.K (ih (i+1) ⟨by omega,fun j hj=> ?_⟩ (by omega))
   by_cases e:j=i
   ·subst e;exact eq_false_of_ne_true hs
   ·exact hb j (by omega)
 ·have h1:i=rows.length:=by simp at h1;omega
  subst h1
  have hn:iz rows.length o=none:=by
   unfold iz
   rw[List.find?_eq_none]
   intro j hj
   rw[hb j (List.mem_range.1 hj)]
   simp
  rw[hn]
  refine .B ?_
  exact⟨[0,1],[],[],⟨rfl,rfl,rfl,rfl,rfl,rfl,trivial⟩,trivial,rfl,.v rfl rfl rfl (fun _=>rfl) (.v rfl rfl rfl (fun _=>rfl) .nil)⟩
def eL (l:List Int)(o:bi):bi:=l.foldl (fun o i=>upA o i true) o
theorem AV (w:World):(zeroValue 24).run Tryz.prog w= .ok (.slice none 0 0) w:=by kernel_rfl
theorem rN (rows:List (List PV))(o:bi)(u:i6)(v:Int)(uq ua uu:Value)(hl: ∀p∈u,p.2.length*8≤140737488355328):
  SpecO Tryz.prog 107 false [uq,ua,uu] [l7 rows ua uu,mpS o,mpU u] [.raw uq,.int .i64 v] [l7 rows ua uu,mpS (eL ((lkA u v).getD []) o),mpU u] (fun _=>[]) (fun _=>[]):=by
 refine SpecO.body [1001,1002,1003] [] Tryz.func107 rfl rfl rfl rfl fun w0 Z1=> ?_
 refine T.sub (Rel.derawp (s:=0) (g:=1001) rfl rfl rfl) ?_
 refine T.sub (Rel.fine (s:=1) rfl rfl) ?_
 refine .B ?_
 refine J.sub (Rel.deraw (s:=9) (g:=1003) rfl rfl) ?_
 refine .B ?_
 refine J.ml v (.sl []) rfl rfl rfl rfl rfl rfl rfl rfl rfl AV (fun _ _=> .nilsl) (mS Tryz.underlying3) (fun _ _ _ h=>c6 h) ?_
 have hmb:((lkA u v).map aA).getD (.sl [])=aA ((lkA u v).getD []):=by cases lkA u v<;>rfl
 rw[hmb]
 have hll:((lkA u v).getD []).length*8≤140737488355328:=by
  cases h:lkA u v with
  |none=>simp
  |some l=>exact hl _ (eH h)
 generalize hL:(lkA u v).getD []=l at*
 generalize hR:eL l o=R
 refine .B ?_
 refine T.K (T.ind (fun x:Nat×bi=>⟨[(0,.optr 0 0 0 0),(11,.val true (aA l)),(12,.val true (.int .i64 (l.map cI).length)),(13,.val true (.int .i64 x.1)),(1001,.eq uq 0),(1002,.eq ua 1),(1003,.eq uu 2)],[(0,some (l7 rows ua uu)),(1,some (mpS x.2)),(2,some (mpU u))],3⟩)
  (fun x=>x.1≤l.length∧eL (l.drop x.1) x.2=R) (fun x=>l.length-x.1) (0,o) ⟨by simp,hR⟩ (fun _ _ h=>h) ?_)
 rintro⟨i,s⟩ ⟨hi,hR⟩ ih
 simp only at hi hR
 dsimp only
 refine .B ?_
 refine T.cd rfl (fun h1=> ?_) (fun h1=> ?_)
 ·have h1:i<l.length:=by simpa using h1
  rw[List.drop_eq_getElem_cons h1]at hR
  refine .B ?_
  refine .I (r:=cI l[i]) (bq h1) ?_
  refine .B ?_
  refine J.sub (Rel.deraw (s:=20) (g:=1002) rfl rfl) ?_
  refine .B ?_
  refine J.mu l[i] true rfl rfl rfl rfl rfl rfl rfl rfl rfl rfl rfl (mS Tryz.underlying3) (fun _ _ _ h=>c6 h) rfl ?_
  refine .B ?_
  rw[aj (l:=l.length) h1 hll]
  exact T.K (ih (i+1,upA s l[i] true) ⟨by omega,hR⟩ (by show _-_<_-_;omega))
 ·have h1:i=l.length:=by simp at h1;omega
  subst h1
  rw[List.drop_length]at hR
  obtain rfl:s=R:=hR
  refine .B ?_
  exact⟨[0,1,2],[],[],⟨rfl,rfl,rfl,rfl,rfl,rfl,rfl,rfl,rfl,trivial⟩,trivial,rfl,.nil⟩
abbrev rh:Value:= .slice none 0 0
def fvL (L:wu)(k:Int):Value:=(L.getD k.toNat (rh,[])).1
def eJ (u:i6)(i:Int)(vs:List Int):i6:=vs.foldl (fun u v=>upA u v ((lkA u v).getD []++[i])) u
def cU:Nat→List Con→bi→i6→bi×i6
 |_,[],o,u=>(o,u)
 |i,c::cs,o,u=>cU (i+1) cs (upA o i true) (eJ u i (usesR c))
def gp (cons:List Con):bi×i6:=cU 0 cons [] []
theorem wO {β γ:Type}(f:Int→γ)(a:Int): ∀u:List (Int×β),lkA (u.map fun p=>(p.1,f p.1)) a=(lkA u a).map fun _=>f a
 | []=>rfl
 |p::u=>by
  rw[List.map_cons,cX,cX,wO f a u]
  by_cases h:p.1=a
  ·simp[h]
  ·simp[h]
theorem wv {β γ:Type}{f f':Int→γ}{a:Int}{y:γ}{x:β}(h2:f' a=y): ∀u:List (Int×β),(u.map (·.1)).Nodup→(∀p∈u,p.1≠a→f' p.1=f p.1)→upA (u.map fun p=>(p.1,f p.1)) a y=(upA u a x).map fun p=>(p.1,f' p.1)
 | [],_,_=>by simp[upA,fiA,h2]
 |p::u,hn,h1=>by
  have hn:=List.nodup_cons.1 hn
  rw[List.map_cons,gO,gO]
  by_cases h:p.1=a
  ·rw[if_pos h,if_pos h,List.map_cons,h2]
   congr 1
   refine List.map_congr_left fun q hq=> ?_
   have:q.1≠a:=fun e=>hn.1 (List.mem_map.2 ⟨q,hq,e.trans h.symm⟩)
   rw[h1 q (.tail _ hq) this]
  ·rw[if_neg h,if_neg h,List.map_cons,h1 p (.head _) h,wv h2 u hn.2 fun q hq=>h1 q (.tail _ hq)]
theorem mV {β:Type}{a:Int}{x:β}: ∀u:List (Int×β),(u.map (·.1)).Nodup→((upA u a x).map (·.1)).Nodup
 | [],_=>by simp[upA,fiA]
 |p::u,hn=>by
  have hn2:=List.nodup_cons.1 hn
  rw[gO]
  by_cases h:p.1=a
  ·rw[if_pos h]
   have e:((a,x)::u).map (·.1)=(p::u).map (·.1):=by simp[h]
   rw[e];exact hn
  ·rw[if_neg h,List.map_cons]
   refine List.nodup_cons.2 ⟨fun hm=> ?_,mV u hn2.2⟩
   obtain⟨q,hq,e⟩:=List.mem_map.1 hm
   rcases mem_upA hq with hq|rfl
   ·exact hn2.1 (List.mem_map.2 ⟨q,hq,e⟩)
   ·exact h e.symm
theorem qg {β:Type}: ∀{u:List (Int×β)},(u.map (·.1)).Nodup→∀{p:Int×β},p∈u→lkA u p.1=some p.2
 |q::u,hn,p,hp=>by
  have hn2:=List.nodup_cons.1 hn
  rw[cX]
  rcases List.mem_cons.1 hp with rfl|hp
  ·rw[if_pos rfl]
  ·have:q.1≠p.1:=fun e=>hn2.1 (List.mem_map.2 ⟨p,hp,e.symm⟩)
   rw[if_neg this]
   exact qg hn2.2 hp
structure UsOk (N t:Nat)(u:i6)(L:wu):Prop where
 rows:L.map (·.2)=(List.range N).map fun k:Nat=>((lkA u (k:Int)).getD []).map cI
 nil: ∀k:Nat,lkA u (k:Int)=none→(L.getD k (rh,[])).1=rh
 nod:(u.map (·.1)).Nodup
 ks: ∀p∈u,0≤p.1∧p.1.toNat<N
 len: ∀p∈u,p.2.length≤t
theorem UsOk.at {N t:Nat}{u:i6}{L:wu}(h:UsOk N t u L){k:Nat}(hk:k<N): ∃v,L[k]? =some (v,((lkA u (k:Int)).getD []).map cI)∧fvL L k=v:=by
 have e:(L.map (·.2))[k]? =some (((lkA u (k:Int)).getD []).map cI):=by rw[h.rows,List.getElem?_map,List.getElem?_range hk];rfl
 rw[List.getElem?_map]at e
 obtain⟨p,hp,e2⟩:=Option.map_eq_some_iff.1 e
 refine⟨p.1,by rw[hp,←e2],?_⟩
 unfold fvL
 rw[Int.toNat_natCast,List.getD_eq_getElem?_getD,hp];rfl
theorem UsOk.put {N t:Nat}{u:i6}{L:wu}(h:UsOk N t u L){v i:Int}(h0:0≤v)(hv:v.toNat<N)(u':Value):
  UsOk N (t+1) (upA u v ((lkA u v).getD []++[i])) (L.set v.toNat (u',((lkA u v).getD []++[i]).map cI))∧
  upA (u.map fun p=>(p.1,fvL L p.1)) v u'=(upA u v ((lkA u v).getD []++[i])).map fun p=>(p.1,fvL (L.set v.toNat (u',((lkA u v).getD []++[i]).map cI)) p.1):=by
 have hL:L.length=N:=by have:=congrArg List.length h.rows;simpa using this
 have ev:((v.toNat:Nat):Int)=v:=by omega
 have hlen:((lkA u v).getD []).length≤t:=by
  cases hc:lkA u v with
  |none=>simp
  |some l=>exact h.len _ (eH hc)
 refine⟨⟨?_,fun k hk=> ?_,mV u h.nod,fun p hp=> ?_,fun p hp=> ?_⟩,wv ?_ u h.nod fun p hp hne=> ?_⟩
 ·rw[List.map_set,h.rows,xB]
  refine List.map_congr_left fun j _=> ?_
  rw[kW]
  by_cases e:j=v.toNat
  ·rw[if_pos e,if_pos (by omega)];rfl
  ·rw[if_neg e,if_neg (by omega)]
 ·rw[kW]at hk
  split at hk
  ·cases hk
  ·rename_i hne
   rw[List.getD_eq_getElem?_getD,List.getElem?_set_ne (by omega),←List.getD_eq_getElem?_getD]
   exact h.nil k hk
 ·rcases mem_upA hp with hp|rfl
  ·exact h.ks p hp
  ·exact⟨h0,hv⟩
 ·rcases mem_upA hp with hp|rfl
  ·have:=h.len p hp;omega
  ·simp;omega
 ·unfold fvL
  rw[List.getD_eq_getElem?_getD,List.getElem?_set_self (by omega)];rfl
 ·have:=h.ks p hp
  unfold fvL
  rw[List.getD_eq_getElem?_getD,List.getElem?_set_ne (by omega),←List.getD_eq_getElem?_getD]
def cE (cons:List Con):PV:= .sl (cons.map cC)
def mpR (u:i6)(L:wu):Own:= .mp true none ((u.map fun p=>(p.1,fvL L p.1)).map fun p=>(Value.int .i64 p.1,PV.raw p.2))
theorem wh (cons:List Con)(N:Nat)(hc: ∀c∈cons,ConB c)(hN: ∀c∈cons,∀v∈usesR c,0≤v∧v.toNat<N)(hl:cons.length*128≤140737488355328)(hM:((cons.map fun c=>(usesR c).length).sum+1)*8≤140737488355328):
  SpecO Tryz.prog 103 true [] [] [cE cons] [] (fun ns=>[l7 (cons.map cC) (ns.getD 1 undef) (ns.getD 2 undef),mpS (gp cons).1,mpU (gp cons).2]) (fun ns=>[.raw (ns.getD 0 undef)]):=by
 refine SpecO.body [] [1001,1002,1003] Tryz.func103 rfl rfl rfl rfl fun w0 Z1=> ?_
 generalize hM2:(cons.map fun c=>(usesR c).length).sum=M at hM
 generalize hR:gp cons=R
 refine .B ?_
 refine J.mm rfl rfl rfl rfl ?_
 refine J.mm rfl rfl rfl rfl ?_
 refine J.name 1002 (s:=9) rfl rfl rfl fun ua=> ?_
 refine J.name 1003 (s:=10) rfl rfl rfl fun uu=> ?_
 refine J.sub (Rel.raw (s:=9) (g:=1002) rfl (.inl rfl) rfl rfl rfl) ?_
 refine J.sub (Rel.raw (s:=10) (g:=1003) rfl (.inl rfl) rfl rfl rfl) ?_
 refine .B ?_
 refine T.sub (fun a w h=>Rel.fam0 N 3 1 h) ?_
 refine T.nameO 1004 3 rfl rfl fun U0=> ?_
 refine T.name 1001 (s:=3) rfl rfl rfl fun uq=> ?_
 have hcl:(cons.map cC).length=cons.length:=List.length_map ..
 refine T.K (T.ind (fun x:Nat×bi×i6×Value×wu=>⟨[(3,.optr 0 0 0 0),(13,.val true (cE cons)),(14,.val true (.int .i64 (cons.map cC).length)),(15,.val true (.int .i64 x.1)),(1001,.eq uq 0),(1002,.eq ua 1),(1003,.eq uu 2),(1004,.eq x.2.2.2.1 3)],[(0,some (l7 (cons.map cC) ua uu)),(1,some (mpS x.2.1)),(2,some (mpR x.2.2.1 x.2.2.2.2)),(3,some (.fam 3 1 true x.2.2.2.2))],4⟩)
  (fun x=>x.1≤cons.length∧cU x.1 (cons.drop x.1) x.2.1 x.2.2.1=R∧∃t,UsOk N t x.2.2.1 x.2.2.2.2∧t+((cons.drop x.1).map fun c=>(usesR c).length).sum≤M) (fun x=>cons.length-x.1) (0,[],[],U0,List.replicate N (rh,[]))
  ⟨by simp,hR,0,⟨by simp[List.map_const',vE],fun k hk=> ?_,.nil,by simp,by simp⟩,by simp[hM2]⟩ (fun _ _ h=>h) ?_)
 ·show((List.replicate N ((rh,[]):Value×List (List PV))).getD k (rh,[])).1=rh
  rw[List.getD_eq_getElem?_getD]
  cases hk:(List.replicate N ((rh,[]):Value×List (List PV)))[k]? with
  |none=>rfl
  |some p=>rw[List.eq_of_mem_replicate (List.mem_of_getElem? hk)];rfl
 rintro⟨i,o,u,U,L⟩ ⟨hi,hR,t,hu,ht⟩ ih
 simp only at hi hR hu ht
 dsimp only
 refine .B ?_
 refine T.cd rfl (fun h1=> ?_) (fun h1=> ?_)
 ·have h1:i<cons.length:=by simpa using h1
  have hrow:(cons.map cC)[((i:Nat):Int).toNat]? =some (cC cons[i]):=by simp[h1]
  have hcb:=hc _ (List.getElem_mem h1)
  have hin:=hN _ (List.getElem_mem h1)
  have hus:=vv cons[i] hcb
  rw[List.drop_eq_getElem_cons h1]at hR ht
  rw[cU]at hR
  simp only[List.map_cons,List.sum_cons]at ht
  generalize cons[i]=c at*
  generalize usesR c=vs at*
  refine .B ?_
  refine .I (r:=cC c) hrow ?_
  refine .B ?_
  refine .L ?_
  refine .B ?_
  refine .W ?_
  refine .B ?_
  refine J.sub (Rel.deraw (s:=23) (g:=1002) rfl rfl) ?_
  refine .B ?_
  refine J.mu (i:Int) true rfl rfl rfl rfl rfl rfl rfl rfl rfl rfl rfl (mS Tryz.underlying3) (fun _ _ _ h=>c6 h) rfl ?_
  refine .B ?_
  refine .C hus.frz ?_
  refine .B ?_
  generalize hu1:eJ u i vs=u1 at hR
  generalize hrest:((cons.drop (i+1)).map fun c=>(usesR c).length).sum=rest at ht
  refine T.K (T.ind (fun x:Nat×i6×Value×wu=>⟨[(3,.optr 0 0 0 0),(4,.val true (.int .i64 i)),(13,.val true (cE cons)),(14,.val true (.int .i64 (cons.map cC).length)),(15,.val true (.int .i64 i)),(26,.val true (aA vs)),(27,.val true (.int .i64 (vs.map cI).length)),(28,.val true (.int .i64 x.1)),(1001,.eq uq 0),(1002,.eq ua 1),(1003,.eq uu 2),(1004,.eq x.2.2.1 3)],[(0,some (l7 (cons.map cC) ua uu)),(1,some (mpS (upA o (i:Int) true))),(2,some (mpR x.2.1 x.2.2.2)),(3,some (.fam 3 1 true x.2.2.2))],4⟩)
   (fun x=>x.1≤vs.length∧eJ x.2.1 i (vs.drop x.1)=u1∧∃t,UsOk N t x.2.1 x.2.2.2∧t+(vs.length-x.1)+rest≤M) (fun x=>vs.length-x.1) (0,u,U,L) ⟨by simp,hu1,t,hu,by simp;omega⟩ (fun _ _ h=>h) ?_)
  rintro⟨j,u,U,L⟩ ⟨hj,hu1,t,hu,ht⟩ ih2
  simp only at hj hu1 hu ht
  dsimp only
  refine .B ?_
  refine T.cd rfl (fun h2=> ?_) (fun h2=> ?_)
  ·have h2:j<vs.length:=by simpa using h2
   have hv:=hin _ (List.getElem_mem h2)
   have hvr:(vs.map cI)[((j:Nat):Int).toNat]? =some (cI vs[j]):=bq h2
   rw[List.drop_eq_getElem_cons h2]at hu1
   generalize vs[j]=v at*
   obtain⟨uk,hk,hfv⟩:=hu.at hv.2
   have ev:((v.toNat:Nat):Int)=v:=by omega
   rw[ev]at hk hfv
   have hpu:=fun u'=>hu.put (i:=(i:Int)) hv.1 hv.2 u'
   have hkl:((lkA u v).getD []).length≤t:=by
    cases hc:lkA u v with
    |none=>simp
    |some l=>exact hu.len _ (eH hc)
   have hval:((lkA (u.map fun p=>(p.1,fvL L p.1)) v).map fun x=>PV.raw x)=some (.raw uk)∨(lkA (u.map fun p=>(p.1,fvL L p.1)) v=none∧rh=uk):=by
    rw[wO]
    cases hc:lkA u v with
    |some l=>exact .inl (by simp[hfv])
    |none=>
     refine .inr ⟨rfl,?_⟩
     have:=hu.nil v.toNat (by rw[ev];exact hc)
     rw[List.getD_eq_getElem?_getD,hk]at this
     exact this.symm
   generalize hold:((lkA u v).getD []:List Int)=old at*
   refine .B ?_
   refine .I (r:=cI v) hvr ?_
   refine .M ?_
   refine T.sub (fun a w h=>Rel.split 1005 v.toNat (q:=3) rfl rfl hk h) ?_
   refine T.rdw 14 rfl (by kernel_rfl) rfl ?_
   iterate 8 refine J.H rfl ?_
   refine J.lr 1003 (q:=2) (u:=uu) rfl rfl rfl rfl rfl rfl rfl rfl rfl ?_
   refine J.H rfl ?_
   refine J.lm 1005 v rfl rfl rfl rfl rfl rfl rfl rfl rfl AV (mS Tryz.underlying3) (fun _ _ _ h=>c6 h) hval rfl rfl ?_
   refine J.H rfl ?_
   refine .V ?_
   refine J.ad rfl rfl rfl rfl rfl rfl rfl rfl rfl rfl rfl rfl rfl rfl rfl rfl rfl rfl (cJ rfl) (by show(List.length _+1)*8≤_;simp;omega) ?_
   refine J.nil ⟨rfl,?_⟩
   refine J.name 1006 (s:=45) rfl rfl rfl fun u'=> ?_
   refine J.sub (Rel.raw (s:=45) (g:=1006) rfl (.inl rfl) rfl rfl rfl) ?_
   refine J.sub (Rel.deraw (s:=35) (g:=1003) rfl rfl) ?_
   refine J.mu v u' rfl rfl rfl rfl rfl rfl rfl rfl rfl rfl rfl (mS Tryz.underlying3) (fun _ _ _ h=>c6 h) rfl ?_
   refine J.sub (fun a w h=>Rel.join v.toNat (g:=1006) (q:=5) (n:=6) (rows:=(old++[(i:Int)]).map cI) rfl (by rw[List.map_append];rfl) rfl rfl h) ?_
   refine J.nil ?_
   refine T.nameO 1004 7 rfl rfl fun U3=> ?_
   refine .B ?_
   rw[aj (l:=vs.length) h2 (by omega),List.set_set,(hpu u').2]
   have hih:=ih2 (j+1,upA u v (old++[(i:Int)]),U3,L.set v.toNat (u',(old++[(i:Int)]).map cI)) ⟨by omega,by rw[←hu1,←hold];rfl,t+1,(hpu u').1,by show t+1+(vs.length-(j+1))+rest≤M;omega⟩ (by show _-_<_-_;omega)
   exact T.K hih
  ·have h2:j=vs.length:=by simp at h2;omega
   subst h2
   rw[List.drop_length]at hu1
   obtain rfl:u=u1:=hu1
   refine .B ?_
   rw[aj (l:=cons.length) h1 (by omega)]
   have hih:=ih (i+1,upA o (i:Int) true,u,U,L) ⟨by omega,hR,t,hu,by show t+((cons.drop (i+1)).map fun c=>(usesR c).length).sum≤M;omega⟩ (by show _-_<_-_;omega)
   exact T.K hih
 ·have h1:i=cons.length:=by simp at h1;omega
  subst h1
  rw[List.drop_length,cU]at hR
  subst hR
  have hin: ∀p∈u.map fun p=>(Value.int .i64 p.1,fvL L p.1,p.2.map cI),p.2∈L:=by
   intro p hp
   obtain⟨q,hq,rfl⟩:=List.mem_map.1 hp
   have hks:=hu.ks q hq
   obtain⟨v,h1,h2⟩:=hu.at hks.2
   have ev:((q.1.toNat:Nat):Int)=q.1:=by omega
   rw[ev]at h1 h2
   have hlk:lkA u q.1=some q.2:=by
    obtain⟨i,hi⟩:=List.getElem?_of_mem hq
    exact qg hu.nod hq
   rw[hlk]at h1
   simp only[h2]
   exact List.mem_of_getElem? h1
  have hmp:mpR u L= .mp true none ((u.map fun p=>(Value.int .i64 p.1,fvL L p.1,p.2.map cI)).map fun p=>(p.1,PV.raw p.2.1)):=by
   unfold mpR
   rw[List.map_map,List.map_map];rfl
  refine T.sub (fun a w h=>Rel.meltM (qc:=2) (q:=3) (e:=3) (sz:=1) (frc:=true) (fr:=true) (b:=none) (L:=L) (u.map fun p=>(Value.int .i64 p.1,fvL L p.1,p.2.map cI)) hin (fun b h=>by obtain⟨u,hu,_⟩:=h;cases hu) (by exact congrArg some hmp) rfl rfl h) ?_
  refine T.sub (Rel.raw (s:=3) (g:=1001) rfl (.inr rfl) rfl rfl rfl) ?_
  rw[show((u.map fun p=>(Value.int .i64 p.1,fvL L p.1,p.2.map cI)).map fun p=>(p.1,PV.sl p.2.2))=u.map fun p=>(Value.int .i64 p.1,aA p.2)from by rw[List.map_map];rfl]
  refine .B ?_
  exact⟨[],[0,1,2],[uq,ua,uu],trivial,⟨rfl,rfl,rfl,rfl,rfl,rfl,rfl,rfl,rfl,trivial⟩,rfl,.v rfl rfl rfl (fun _=>rfl) .nil⟩
def cF (o:bi)(j:Nat):Bool:=(lkA o (j:Int)).getD false
theorem n8 (c:Int): ∀(l:List Int) (o:bi),lkA (eL l o) c=if c∈l then some true else lkA o c
 | [],o=>by simp[eL]
 |x::l,o=>by
  have:=n8 c l (upA o x true)
  rw[show eL (x::l) o=eL l (upA o x true)from rfl,this,kW]
  by_cases h:c∈l
  ·rw[if_pos h,if_pos (.tail _ h)]
  ·rw[if_neg h]
   by_cases e:x=c
   ·rw[if_pos e,if_pos (by rw[e];exact .head _)]
   ·rw[if_neg e,if_neg (fun hm=>(List.mem_cons.1 hm).elim (fun h2=>e h2.symm) h)]
theorem mA: ∀(l:List Int) (o:bi),(o.map (·.1)).Nodup→((eL l o).map (·.1)).Nodup
 | [],o,h=>h
 |x::l,o,h=>mA l (upA o x true) (mV o h)
theorem w6 {β:Type}(p:Int×β)(l:List (Int×β))(a:Int):dlA (p::l) a=if p.1=a then l else p::dlA l a:=by
 unfold dlA
 rw[rz]
 by_cases h:p.1=a
 ·rw[if_pos h,if_pos h];rfl
 ·rw[if_neg h,if_neg h]
  cases fiA l a<;>simp
theorem zS {β:Type}(a:Int): ∀l:List (Int×β),(dlA l a).Sublist l
 | []=>by simp[dlA,fiA]
 |p::l=>by
  rw[w6]
  split
  ·exact List.sublist_cons_self _ _
  ·exact(zS a l).cons_cons p
theorem A3 {β:Type}(a c:Int): ∀l:List (Int×β),(l.map (·.1)).Nodup→lkA (dlA l a) c=if a=c then none else lkA l c
 | [],_=>by simp[dlA,fiA,vE]
 |p::l,hn=>by
  have hn2:=List.nodup_cons.1 hn
  have hno:p.1=c→lkA l c=none:=fun e=>by
   cases h:lkA l c with
   |none=>rfl
   |some b=>exact absurd (List.mem_map.2 ⟨(c,b),eH h,e.symm⟩) hn2.1
  rw[w6]
  by_cases h:p.1=a
  ·rw[if_pos h,cX]
   by_cases e:a=c
   ·rw[if_pos e];exact hno (h.trans e)
   ·rw[if_neg e,if_neg (fun h2=>e (h.symm.trans h2))]
  ·rw[if_neg h,cX,cX,A3 a c l hn2.2]
   by_cases e:p.1=c
   ·rw[if_pos e,if_pos e,if_neg (fun h2=>h (e.trans h2.symm))]
   ·rw[if_neg e,if_neg e]
theorem nk (i c:Int): ∀(vs:List Int) (u:i6),vs.Nodup→(lkA (eJ u i vs) c).getD []=if c∈vs then(lkA u c).getD []++[i]else(lkA u c).getD []
 | [],u,_=>by simp[eJ]
 |v::vs,u,hn=>by
  have hn2:=List.nodup_cons.1 hn
  rw[show eJ u i (v::vs)=eJ (upA u v ((lkA u v).getD []++[i])) i vs from rfl,nk i c vs _ hn2.2,kW]
  by_cases e:v=c
  ·subst e
   rw[if_neg hn2.1,if_pos rfl,if_pos (.head _)];rfl
  ·rw[if_neg e]
   by_cases h:c∈vs
   ·rw[if_pos h,if_pos (.tail _ h)]
   ·rw[if_neg h,if_neg (fun hm=>(List.mem_cons.1 hm).elim (fun h2=>e h2.symm) h)]
theorem oZ: ∀(cons:List Con) (i:Nat) (o:bi) (u:i6),(o.map (·.1)).Nodup→
  (((cU i cons o u).1).map (·.1)).Nodup∧(∀j,cF (cU i cons o u).1 j=if i≤j∧j<i+cons.length then true else cF o j)∧
  ∀(v x:Int),x∈(lkA (cU i cons o u).2 v).getD []↔x∈(lkA u v).getD []∨∃k c,cons[k]? =some c∧v∈usesR c∧x=((i+k:Nat):Int)
 | [],i,o,u,h=>⟨h,fun j=>by rw[if_neg (by simp)];rfl,fun v x=>by simp[cU]⟩
 |c::cons,i,o,u,h=>by
  obtain⟨h1,h2,h3⟩:=oZ cons (i+1) (upA o i true) (eJ u i (usesR c)) (mV o h)
  refine⟨h1,fun j=> ?_,fun v x=> ?_⟩
  ·have e1:cF (upA o i true) j=if i=j then true else cF o j:=by
    unfold cF
    rw[kW]
    by_cases e:i=j
    ·rw[if_pos e,if_pos (by omega)];rfl
    ·rw[if_neg e,if_neg (by omega)]
   rw[cU,h2 j,e1]
   by_cases e:i=j
   ·rw[if_pos e,ite_self,if_pos (by simp;omega)]
   ·rw[if_neg e]
    by_cases hj:i+1≤j∧j<i+1+cons.length
    ·rw[if_pos hj,if_pos (by simp;omega)]
    ·rw[if_neg hj,if_neg (by simp;omega)]
  ·rw[cU,h3 v x,nk _ _ (usesR c) u (dw (bW _))]
   constructor
   ·rintro(hx|⟨k,c',h4,h5,h6⟩)
    ·split at hx
     ·rename_i hv
      rcases List.mem_append.1 hx with hx|hx
      ·exact .inl hx
      ·exact .inr ⟨0,c,rfl,hv,by rw[List.mem_singleton.1 hx];rfl⟩
     ·exact .inl hx
    ·exact .inr ⟨k+1,c',by simpa using h4,h5,by rw[h6];congr 1;omega⟩
   ·rintro(hx|⟨k,c',h4,h5,h6⟩)
    ·refine .inl ?_
     split
     ·exact List.mem_append_left _ hx
     ·exact hx
    ·cases k with
     |zero=>
      simp at h4
      subst h4
      rw[if_pos h5]
      exact .inl (List.mem_append_right _ (by rw[h6];exact .head _))
     |succ k=>exact .inr ⟨k,c',by simpa using h4,h5,by rw[h6];congr 1;omega⟩
theorem mh {t:Nat}(i:Int): ∀(vs:List Int) (u:i6),(∀p∈u,p.2.length≤t)→∀p∈eJ u i vs,p.2.length≤t+vs.length
 | [],u,h,p,hp=>h p hp
 |v::vs,u,h,p,hp=>by
  have:=mh (t:=t+1) i vs (upA u v ((lkA u v).getD []++[i])) (fun q hq=>by
   rcases mem_upA hq with hq|rfl
   ·have:=h q hq;omega
   ·have:((lkA u v).getD []).length≤t:=by
     cases hc:lkA u v with
     |none=>simp
     |some l=>exact h _ (eH hc)
    simp;omega) p hp
  simp;omega
theorem qL: ∀(cons:List Con) (i t:Nat) (o:bi) (u:i6),(∀p∈u,p.2.length≤t)→∀p∈(cU i cons o u).2,p.2.length≤t+(cons.map fun c=>(usesR c).length).sum
 | [],i,t,o,u,h,p,hp=>by simpa[cU]using h p hp
 |c::cons,i,t,o,u,h,p,hp=>by
  have:=qL cons (i+1) (t+(usesR c).length) (upA o i true) (eJ u i (usesR c)) (mh _ _ _ h) p hp
  simp only[List.map_cons,List.sum_cons]
  omega
def AllEnds (cons:List Con)(d:aa)(R:Option aa):Prop:=eh leD (GoodD d.length) bK cons d R
open Classical in
noncomputable def gK (cons:List Con)(d:aa):Option aa:=if h: ∃R:Option aa,AllEnds cons d R then h.choose else none
theorem ft {cons:List Con}{d:aa}{R:Option aa}(h:AllEnds cons d R):R=gK cons d:=by
 have hex: ∃R:Option aa,AllEnds cons d R:=⟨R,h⟩
 unfold gK
 rw[dif_pos hex]
 exact eh.one (be d.length) (fun _=>Iff.rfl) h hex.choose_spec
theorem wl {cons:List Con}{d:aa}(h: []∈d):gK cons d=none:=by
 refine(ft (R:=none) ?_).symm
 rintro⟨e,ge,hle,_⟩
 obtain⟨j,hj⟩:=List.getElem?_of_mem h
 have hjl:=(List.getElem?_eq_some_iff.1 hj).1
 obtain⟨x,hx⟩:=ge.ne (v:=(j:Int)) (by simpa using hjl)
 have:=hle.2 j x (by omega) hx
 unfold domAt at this
 rw[List.getD_eq_getElem?_getD,Int.toNat_natCast,hj]at this
 cases this
theorem leD.sub {n:Nat}{a b:aa}(ga:GoodD n a)(gb:GoodD n b)(h:leD a b):Sub a b:=by
 refine⟨h.1,fun i x y hx hy v hv=> ?_⟩
 have h1:domAt a (i:Int)=x:=by
  unfold domAt;rw[List.getD_eq_getElem?_getD,Int.toNat_natCast,hx];rfl
 have h2:domAt b (i:Int)=y:=by
  unfold domAt;rw[List.getD_eq_getElem?_getD,Int.toNat_natCast,hy];rfl
 have:=h.2 (i:Int) v (by omega) (by rw[h1];exact hv)
 rwa[h2]at this
theorem ja {n:Nat}{a b:aa}(ga:GoodD n a)(gb:GoodD n b)(h:leD a b):weight a≤weight b∧(a≠b→weight a<weight b):=i9 (leD.sub ga gb h) ga.few.fine gb.few.fine
def v6 (m:Nat)(o:bi):Nat:=((List.range m).filter (cF o)).length
theorem AO (m:Nat)(o:bi):v6 m o≤m:=by
 have:=List.length_filter_le (cF o) (List.range m)
 simpa[v6]using this
structure QInv (cons:List Con)(d:aa)(x:aa×bi):Prop where
 come:Come leD (GoodD d.length) bK cons d x.1
 nod:(x.2.map (·.1)).Nodup
 shut: ∀(j:Nat) c,cons[j]? =some c→cF x.2 j=false→bK c x.1=some x.1
theorem u0 {cons:List Con}{d:aa}(gd:GoodD d.length d):QInv cons d (d,(gp cons).1):=by
 obtain⟨h1,h2,_⟩:=oZ cons 0 [] [] .nil
 refine⟨Come.refl (be _) gd,h1,fun j c hj hb=> ?_⟩
 have hjl:=(List.getElem?_eq_some_iff.1 hj).1
 have:=h2 j
 rw[if_pos (by omega)]at this
 rw[show cF (d,(gp cons).1).2 j=cF (cU 0 cons [] []).1 j from rfl,this]at hb
 cases hb
theorem y3 {cons:List Con}{d:aa}{x:aa×bi}(h:QInv cons d x)(hn:iz cons.length x.2=none):AllEnds cons d (some x.1):=by
 refine⟨h.come,fun c hc=> ?_⟩
 obtain⟨j,hj⟩:=List.getElem?_of_mem hc
 have hjl:=(List.getElem?_eq_some_iff.1 hj).1
 have:=List.find?_eq_none.1 hn j (List.mem_range.2 hjl)
 exact h.shut j c hj (by simpa[cF]using this)
theorem xC {cons:List Con}{d:aa}{P:Con→(Int→Int)→Prop}(hs: ∀c∈cons,StepOK d.length (usesR c) (P c) (bK c)){x:aa×bi}{i:Nat}{c:Con}{now:aa}{o2:bi}(h:QInv cons d x)(hi:iz cons.length x.2=some i)(hc:cons[i]? =some c)(hnow:bK c x.1=some now)
  (ho: ∀j,cF o2 j=true↔cF (dlA x.2 (i:Int)) j=true∨∃v c',v<x.1.length∧x.1[v]? ≠now[v]? ∧cons[j]? =some c'∧(v:Int)∈usesR c') (hn2:(o2.map (·.1)).Nodup):
  QInv cons d (now,o2)∧weight now*(cons.length+1)+v6 cons.length o2<weight x.1*(cons.length+1)+v6 cons.length x.2:=by
 have O:=be d.length
 have hcm:=List.mem_of_getElem? hc
 have hst:=hs c hcm
 have gx:=h.come.fine
 have hcome:=h.come.step O hcm hst.takes hnow
 have gn:=hcome.fine
 have hlo:x.1.length=now.length:=by rw[gx.len,gn.len]
 have hle:=(hst.takes.less _ _ gx hnow).2
 have hopen:cF x.2 i=true∧i<cons.length:=by
  unfold iz at hi
  rw[List.find?_range_eq_some]at hi
  exact⟨hi.1,by simpa using hi.2.1⟩
 have hd: ∀j,cF (dlA x.2 (i:Int)) j=if i=j then false else cF x.2 j:=fun j=>by
  unfold cF
  rw[A3 _ _ _ h.nod]
  by_cases e:i=j
  ·subst e;rw[if_pos rfl,if_pos rfl];rfl
  ·rw[if_neg (by omega),if_neg e]
 have same: ∀j c',cons[j]? =some c'→cF o2 j=false→∀u∈usesR c',domAt x.1 u=domAt now u:=fun j c' hj hb u hu=>by
  have hin:=(hs c' (List.mem_of_getElem? hj)).in' u hu
  have hne: ¬(x.1[u.toNat]? ≠now[u.toNat]?):=fun hne=>by
   have:=(ho j).2 (.inr ⟨u.toNat,c',by rw[gx.len];exact hin.2,hne,hj,by rw[show((u.toNat:Nat):Int)=u by omega];exact hu⟩)
   rw[hb]at this;cases this
  have e:=Classical.not_not.1 hne
  unfold domAt
  rw[List.getD_eq_getElem?_getD,List.getD_eq_getElem?_getD,e]
 refine⟨⟨hcome,hn2,fun j c' hj hb=> ?_⟩,?_⟩
 ·have hbd:cF (dlA x.2 (i:Int)) j=false:=by
   cases hh:cF (dlA x.2 (i:Int)) j with
   |false=>rfl
   |true=>rw[(ho j).2 (.inl hh)]at hb;cases hb
  rw[hd j]at hbd
  by_cases e:i=j
  ·subst e
   rw[hc]at hj
   obtain rfl:=Option.some.inj hj
   have hsm:=same i c hc hb
   have e:now=x.1:=iZ gn gx fun v y h0=>by
    by_cases hv:v∈usesR c
    ·rw[hsm v hv]
    ·rw[hst.off x.1 now gx hnow v h0 hv]
   show bK c now=some now
   rw[e,hnow,e]
  ·rw[if_neg e]at hbd
   exact(hs c' (List.mem_of_getElem? hj)).stays x.1 now gx gn (h.shut j c' hj hbd) (same j c' hj hb)
 ·have hw:=ja gn gx hle
  by_cases e:now=x.1
  ·subst e
   have hcnt:v6 cons.length o2<v6 cons.length x.2:=by
    refine jo (p:=cF x.2) (q:=cF o2) (List.range cons.length) i (fun j hj=> ?_) (List.mem_range.2 hopen.2) hopen.1 ?_
    ·rcases (ho j).1 hj with h1|⟨v,_,_,hne,_⟩
     ·rw[hd j]at h1
      split at h1
      ·cases h1
      ·exact h1
     ·exact absurd rfl hne
    ·cases hb:cF o2 i with
     |false=>rfl
     |true=>
      rcases (ho i).1 hb with h1|⟨v,_,_,hne,_⟩
      ·rw[hd i,if_pos rfl]at h1;cases h1
      ·exact absurd rfl hne
   omega
  ·have h1:=hw.2 e
   have h2:=AO cons.length o2
   have h3:weight now*(cons.length+1)+(cons.length+1)≤weight x.1*(cons.length+1):=by
    have:=Nat.mul_le_mul_right (cons.length+1) h1
    rw[Nat.succ_mul]at this
    exact this
   omega
def vp (x:List (Int×Int)):Bool:=decide ((vals x).length=1)
def cH (d:aa):Option (List Int):=if d.all vp=true then some (d.map aw)else none
def Ar (R:Option (List Int)):List RV:=[.own 3 1 ((R.getD []).map cI),.val (.bool R.isSome)]
theorem uT {pre post:aa}{x:List (Int×Int)}(h:vp x=false):cH (pre++x::post)=none:=by
 unfold cH
 rw[if_neg]
 simp[h]
theorem rx (d:aa)(hd:d.length*24≤140737488355328)(hf: ∀x∈d,Fine x):Spec Tryz.prog 69 false [aH d] (Ar (cH d)):=by
 refine Spec.body Tryz.func69 rfl rfl rfl fun w0 Z0=> ?_
 generalize hR:cH d=R
 refine .B ?_
 refine .O ?_
 refine .B ?_
 refine T.K (T.listI d (fun pre=>pre.all vp=true) (fun n pre post=>⟨[(4,.ref 0),(10,.val false (aH d)),(11,.val true (.int .i64 (d.map cD).length)),(12,.val true (.int .i64 n))],[(0,some (.sl 3 1 true ((pre.map aw).map cI)))],1⟩) (fun _ _ h=>h) (by simp) ?_ ?_)
 ·rintro n pre x post h hn hi ih
  have hlt:=bZ h hn
  have hfx:=hf x (by rw[h];simp)
  have hxl:=hfx.len
  have hs:=sA hfx
  refine .B ?_
  refine T.ct2 rfl (bY h hn) ?_
  refine .B ?_
  refine .I (r:=cD x) (aP h hn) ?_
  refine .B ?_
  refine .C (j7 x) ?_
  refine .B ?_
  have no:vp x=false→R=none:=fun hx=>by rw[←hR,h];exact uT hx
  cases hx:x.isEmpty with
  |true=>
   have hxe:x=[]:=by simpa using hx
   have hR2:=no (by rw[hxe];rfl)
   subst hR2
   refine .B ?_
   refine T.ct rfl ?_
   refine .B ?_
   exact⟨_,.ownN rfl (.v rfl rfl rfl (fun _=>rfl) .nil)⟩
  |false=>
   refine .B ?_
   refine .C (gu x (by omega)) ?_
   refine .B ?_
   refine T.cd rfl (fun h1=> ?_) (fun h1=> ?_)
   ·have hR2:=no (decide_eq_false fun e=>by
     rw[hs,e]at h1
     exact h1 rfl)
    subst hR2
    refine .B ?_
    exact⟨_,.ownN rfl (.v rfl rfl rfl (fun _=>rfl) .nil)⟩
   ·have h1:vp x=true:=decide_eq_true (by
     have:fC x=1:=Classical.not_not.1 h1
     rw[hs]at this;omega)
    refine .B ?_
    refine .V ?_
    refine J.aI rfl rfl rfl rfl rfl rfl rfl rfl rfl rfl rfl rfl rfl rfl rfl rfl rfl rfl rfl (by simp;omega) ?_
    refine .B ?_
    rw[aj hlt (by omega)]
    have:=ih (by simp[hi,h1])
    rw[List.map_append]at this
    exact T.K this
 ·intro hi
  have hR:some (d.map aw)=R:=by rw[←hR,cH,if_pos hi]
  subst hR
  refine .B ?_
  refine T.cf2 rfl bl ?_
  refine .B ?_
  exact⟨_,.o rfl rfl rfl (fun _=> .inl rfl) (by simp) (.v rfl rfl rfl (fun _=>rfl) .nil)⟩
structure ConsOk (d:aa)(cons:List Con):Prop where
 con: ∀c∈cons,ConB c
 right: ∀c∈cons,RightC d c
 few:cons.length*128≤140737488355328
 uses:((cons.map fun c=>(usesR c).length).sum+1)*8≤140737488355328
theorem ConsOk.step {d:aa}{cons:List Con}(h:ConsOk d cons)(gd:GoodD d.length d): ∀c∈cons,StepOK d.length (usesR c) (fun g=>(c.kind=4→0≤g c.b∧g c.b≤1)→bS c (nv d.length g)=true) (bK c):=fun c hc=>s5 gd (h.con c hc) (h.right c hc)
theorem yh (d:aa)(cons:List Con)(hd:d.length*24≤140737488355328)(hx: ∀x∈d,Fine x∧(vals x).length≤4096)(hc:ConsOk d cons)
  (hone: ∀c∈cons,∀out,GoodD d.length out→leD out d→Spec Tryz.prog 105 false [aH out,.agg (cC c)] (aU (bK c out))):
  Spec Tryz.prog 67 false [aH d,cE cons] (aU (gK cons d)):=by
 refine Spec.body Tryz.func67 rfl rfl rfl fun w0 Z0=> ?_
 generalize hR:gK cons d=R
 refine .B ?_
 refine T.sub (Rel.own0 (s:=6) 54 1 rfl) ?_
 refine T.K (T.listI d (fun pre=>[]∉pre) (fun n pre post=>⟨[(1,.val false (cE cons)),(6,.ref 0),(15,.val false (aH d)),(16,.val true (.int .i64 (d.map cD).length)),(17,.val true (.int .i64 n))],[(0,some (.sl 54 1 true (pre.map cD)))],1⟩) (fun _ _ h=>h) (by simp) ?_ ?_)
 ·rintro n pre x post h hn hi ih
  have hlt:=bZ h hn
  have hxl:=(hx x (by rw[h];simp)).1.len
  refine .B ?_
  refine T.ct2 rfl (bY h hn) ?_
  refine .B ?_
  refine .I (r:=cD x) (aP h hn) ?_
  refine .B ?_
  refine T.cd rfl (fun h1=> ?_) (fun h1=> ?_)
  ·have hxe:x=[]:=by simp at h1;exact h1
   have:R=none:=by rw[←hR,wl (by rw[h,hxe];simp)]
   subst this
   refine .B ?_
   exact⟨_,.ownN rfl (.v rfl rfl rfl (fun _=>rfl) .nil)⟩
  ·have hxe:x≠[]:=fun e=>h1 (by rw[e];rfl)
   refine .B ?_
   refine .C (bN x (by omega)).frz ?_
   refine .B ?_
   refine .V ?_
   refine J.aD rfl rfl rfl rfl rfl rfl rfl rfl rfl rfl rfl rfl rfl rfl rfl rfl rfl rfl rfl (by omega) ?_
   refine .B ?_
   rw[aj hlt (by omega)]
   exact T.K (ih (by simp[hi,Ne.symm hxe]))
 ·intro hne
  have gd:GoodD d.length d:=⟨⟨hd,fun x h=>(hx x h).1,fun x h=>(hx x h).2⟩,rfl,hne⟩
  have hst:=hc.step gd
  refine .B ?_
  refine T.cf2 rfl bl ?_
  refine .B ?_
  have hbg:=wh cons d.length hc.con (fun c hcc=>(pH (hc.con c hcc) (hc.right c hcc)).2.2) hc.few hc.uses
  refine J.co (qs:=[]) (cs2:=[]) false [] [1001,1002,1003] rfl rfl rfl rfl rfl rfl hbg trivial rfl rfl rfl rfl rfl rfl rfl fun ns hns=> ?_
  obtain⟨uq,ua,uu,rfl⟩: ∃uq ua uu,ns=[uq,ua,uu]:=by
   match ns,hns with
   | [a,b,c],_=>exact⟨a,b,c,rfl⟩
  refine .B ?_
  have hlen: ∀p∈(gp cons).2,p.2.length*8≤140737488355328:=fun p hp=>by
   have:=qL cons 0 0 [] [] (by simp) p hp
   have:=hc.uses
   omega
  have hlk: ∀(v x:Int),x∈(lkA (gp cons).2 v).getD []↔∃(k:Nat) (c:Con),cons[k]? =some c∧v∈usesR c∧x=(k:Int):=fun v x=>by
   have:=(oZ cons 0 [] [] .nil).2.2 v x
   rw[show(gp cons).2=(cU 0 cons [] []).2 from rfl,this]
   simp[vE]
  have hqb:=u0 (cons:=cons) gd
  generalize (gp cons).1=o0 at*
  generalize (gp cons).2=us at*
  refine T.K (T.ind (fun x:aa×bi=>⟨[(1,.val false (cE cons)),(6,.ref 0),(9,.val true (.raw uq)),(1001,.eq uq 1),(1002,.eq ua 2),(1003,.eq uu 3)],[(0,some (.sl 54 1 true (x.1.map cD))),(1,some ((l7 (cons.map cC) ua uu).reg false)),(2,some ((mpS x.2).reg false)),(3,some ((mpU us).reg false))],4⟩)
   (fun x=>QInv cons d x) (fun x=>weight x.1*(cons.length+1)+v6 cons.length x.2) (d,o0) hqb (fun _ _ h=>h) ?_)
  rintro⟨out,o⟩ hq ih
  dsimp only
  have gx:GoodD d.length out:=hq.come.fine
  have hnx:=xR (cons.map cC) o uq ua uu (by simp;have:=hc.few;omega)
  rw[List.length_map]at hnx
  refine .B ?_
  refine J.co (qs:=[1,2]) (cs2:=[(l7 (cons.map cC) ua uu).reg false,(mpS o).reg false]) false [1001,1002] [] rfl rfl rfl rfl rfl rfl hnx ⟨rfl,rfl,rfl,rfl,trivial⟩ rfl rfl rfl rfl rfl rfl rfl fun ns hns=> ?_
  obtain rfl:ns=[]:=List.eq_nil_of_length_eq_zero hns
  cases hn:iz cons.length o with
  |none=>
   have hfin:=ft (y3 hq hn)
   rw[hR]at hfin
   subst hfin
   refine .B ?_
   refine T.ct rfl ?_
   refine .B ?_
   exact⟨_,.o rfl rfl rfl (fun _=> .inl rfl) (by simp) (.v rfl rfl rfl (fun _=>rfl) .nil)⟩
  |some i=>
   have hil:i<cons.length:=by
    unfold iz at hn
    rw[List.find?_range_eq_some]at hn
    simpa using hn.2.1
   have hci:cons[i]? =some cons[i]:=List.getElem?_eq_getElem hil
   have hcm:=List.getElem_mem hil
   have hrow:(cons.map cC)[((i:Nat):Int).toNat]? =some (cC cons[i]):=by simp[hil]
   have hsp:=hone _ hcm out gx hq.come.less
   have hstc:=hst _ hcm
   have hqs:=fun now o2=>xC (o2:=o2) (now:=now) hst hq hn hci
   generalize cons[i]=c at*
   refine .B ?_
   refine T.cf rfl ?_
   refine .B ?_
   refine J.i rfl rfl rfl rfl rfl rfl rfl rfl rfl (r:=cC c) (by simp) hrow rfl ?_
   refine .B ?_
   refine .C hsp ?_
   cases hnow:bK c out with
   |none=>
    have hfin:=ft (d:=d) (R:=none) (show AllEnds cons d none from hq.come.none hcm hstc.takes hnow)
    rw[hR]at hfin
    subst hfin
    refine .B ?_
    refine T.ct rfl ?_
    refine .B ?_
    exact⟨_,.ownN rfl (.v rfl rfl rfl (fun _=>rfl) .nil)⟩
   |some now=>
    have hqs:=fun o2=>hqs now o2 hnow
    have gn:=(hstc.takes.less _ _ gx hnow).1
    refine .B ?_
    refine T.cf rfl ?_
    refine .B ?_
    have hlen2:out.length=now.length:=by rw[gx.len,gn.len]
    have hml:((cons.map cC).length:Nat)=cons.length:=List.length_map ..
    refine T.K (T.ind (fun x:Nat×bi=>⟨[(1,.val false (cE cons)),(6,.ref 0),(9,.val true (.raw uq)),(12,.ref 4),(52,.val true (.int .i64 (out.map cD).length)),(53,.val true (.int .i64 x.1)),(1001,.eq uq 1),(1002,.eq ua 2),(1003,.eq uu 3)],[(0,some (.sl 54 1 true (out.map cD))),(1,some ((l7 (cons.map cC) ua uu).reg false)),(2,some ((mpS x.2).reg false)),(3,some ((mpU us).reg false)),(4,some (.sl 54 1 true (now.map cD)))],5⟩)
     (fun x=>x.1≤out.length∧(x.2.map (·.1)).Nodup∧∀j,cF x.2 j=true↔cF (dlA o (i:Int)) j=true∨∃(w:Nat) (c':Con),w<x.1∧out[w]? ≠now[w]? ∧cons[j]? =some c'∧(w:Int)∈usesR c') (fun x=>out.length-x.1) (0,dlA o (i:Int))
     ⟨by simp,hq.nod.sublist ((zS (i:Int) o).map _),fun j=>⟨.inl,fun h=>h.resolve_right fun⟨w,c',h1,_⟩=>absurd h1 (Nat.not_lt_zero w)⟩⟩ (fun _ _ h=>h) ?_)
    rintro⟨v,o2⟩ ⟨hv,hnd,ho⟩ ih2
    simp only at hv hnd ho
    dsimp only
    refine .B ?_
    refine T.cd rfl (fun h1=> ?_) (fun h1=> ?_)
    ·have h1:v<out.length:=by simpa using h1
     have h2:v<now.length:=by omega
     have hxl:=(gx.few.fine _ (List.getElem_mem h1)).len
     have ra:(out.map cD)[((v:Nat):Int).toNat]? =some (cD out[v]):=by simp[h1]
     have rb:(now.map cD)[((v:Nat):Int).toNat]? =some (cD now[v]):=by simp[h2]
     have ea:out[v]? =some out[v]:=List.getElem?_eq_getElem h1
     have eb:now[v]? =some now[v]:=List.getElem?_eq_getElem h2
     have hw1:IntKind.i64.wrap ((v:Int)+1)=((v+1:Nat):Int):=aj (l:=out.length) h1 (by have:=gx.few.small;omega)
     have hch:=rN (cons.map cC) o2 us (v:Int) uq ua uu hlen
     generalize hxa:out[v]=xa at*
     generalize hxb:now[v]=xb at*
     refine .B ?_
     refine .M ?_
     refine J.io rfl rfl rfl rfl rfl rfl rfl rfl rfl (by omega) (by simpa using h1) rfl ?_
     refine J.lo rfl rfl rfl rfl rfl rfl (r:=cD xa) ra rfl ?_
     refine .M ?_
     refine J.io rfl rfl rfl rfl rfl rfl rfl rfl rfl (by omega) (by simpa using h2) rfl ?_
     refine J.lo rfl rfl rfl rfl rfl rfl (r:=cD xb) rb rfl ?_
     refine .M ?_
     refine .C (d7 xa xb (by omega)) ?_
     by_cases hab:xa=xb
     ·rw[decide_eq_true hab]
      refine .B ?_
      refine T.cf rfl ?_
      refine .B ?_
      rw[hw1]
      have:=ih2 (v+1,o2) ⟨by omega,hnd,fun k=>(ho k).trans (or_congr_right ⟨fun⟨w,c',h3,h4⟩=>⟨w,c',by omega,h4⟩,fun⟨w,c',h3,h4,h5⟩=>⟨w,c',by
       have:w≠v:=fun e=>h4 (by rw[e,ea,eb,hab])
       omega,h4,h5⟩⟩)⟩ (by show _-_<_-_;omega)
      exact T.K this
     ·rw[decide_eq_false hab]
      refine .B ?_
      refine T.ct rfl ?_
      refine .B ?_
      refine J.co (qs:=[1,2,3]) (cs2:=[(l7 (cons.map cC) ua uu).reg false,(mpS o2).reg false,(mpU us).reg false]) false [1001,1002,1003] [] rfl rfl rfl rfl rfl rfl hch ⟨rfl,rfl,rfl,rfl,rfl,rfl,trivial⟩ rfl rfl rfl rfl rfl rfl rfl fun ns hns=> ?_
      obtain rfl:ns=[]:=List.eq_nil_of_length_eq_zero hns
      refine .B ?_
      rw[hw1]
      have hb3: ∀k,cF (eL ((lkA us (v:Int)).getD []) o2) k=true↔cF o2 k=true∨∃c',cons[k]? =some c'∧(v:Int)∈usesR c':=fun k=>by
       unfold cF
       rw[n8]
       by_cases hm:(k:Int)∈(lkA us (v:Int)).getD []
       ·rw[if_pos hm]
        obtain⟨k',c',h3,h4,h5⟩:=(hlk _ _).1 hm
        obtain rfl:k=k':=by omega
        exact⟨fun _=> .inr ⟨c',h3,h4⟩,fun _=>rfl⟩
       ·rw[if_neg hm]
        exact⟨.inl,fun h=>h.resolve_right fun⟨c',h3,h4⟩=>hm ((hlk _ _).2 ⟨k,c',h3,h4,rfl⟩)⟩
      have:=ih2 (v+1,eL ((lkA us (v:Int)).getD []) o2) ⟨by omega,mA _ _ hnd,fun k=>by
       rw[hb3 k,ho k]
       constructor
       ·rintro((h3|⟨w,c',h3,h4,h5⟩)|⟨c',h3,h4⟩)
        ·exact .inl h3
        ·exact .inr ⟨w,c',by omega,h4,h5⟩
        ·exact .inr ⟨v,c',by omega,by rw[ea,eb];exact fun e=>hab (Option.some.inj e),h3,h4⟩
       ·rintro(h3|⟨w,c',h3,h4,h5⟩)
        ·exact .inl (.inl h3)
        ·by_cases e:w=v
         ·subst e;exact .inr ⟨c',h5⟩
         ·exact .inl (.inr ⟨w,c',by omega,h4,h5⟩)⟩ (by show _-_<_-_;omega)
      exact T.K this
    ·have h1:v=out.length:=by simp at h1;omega
     subst h1
     refine .B ?_
     have:=ih (now,o2) (hqs o2 ho hnd).1 (hqs o2 ho hnd).2
     exact T.K this
def mZ (k:Int):FuncId:=if k=1 then 133 else if k=2 then 134 else if k=3 then 135 else if k=4 then 136 else if k=5 then 137 else if k=6 then 138 else 139
theorem wY {d:aa}{c:Con}{R:Option aa}(h:Spec Tryz.prog (mZ c.kind) false [aH d,.agg (cC c)] (aU R)):Spec Tryz.prog 105 false [aH d,.agg (cC c)] (aU R):=by
 refine Spec.body Tryz.func105 rfl rfl rfl fun w0 Z0=> ?_
 unfold mZ at h
 refine .B ?_
 refine T.cd rfl (fun h1=> ?_) (fun h1=> ?_)
 ·have h1:c.kind=1:=h1
  rw[if_pos h1]at h
  refine .B ?_
  refine .C h ?_
  refine .B ?_
  exact⟨_,.o rfl rfl rfl (fun _=> .inl rfl) (by simp) (.v rfl rfl rfl (fun _=>rfl) .nil)⟩
 ·have h1: ¬c.kind=1:=h1
  rw[if_neg h1]at h
  refine .B ?_
  refine T.cd rfl (fun h1=> ?_) (fun h1=> ?_)
  ·have h1:c.kind=2:=h1
   rw[if_pos h1]at h
   refine .B ?_
   refine .C h ?_
   refine .B ?_
   exact⟨_,.o rfl rfl rfl (fun _=> .inl rfl) (by simp) (.v rfl rfl rfl (fun _=>rfl) .nil)⟩
  ·have h1: ¬c.kind=2:=h1
   rw[if_neg h1]at h
   refine .B ?_
   refine T.cd rfl (fun h1=> ?_) (fun h1=> ?_)
   ·have h1:c.kind=3:=h1
    rw[if_pos h1]at h
    refine .B ?_
    refine .C h ?_
    refine .B ?_
    exact⟨_,.o rfl rfl rfl (fun _=> .inl rfl) (by simp) (.v rfl rfl rfl (fun _=>rfl) .nil)⟩
   ·have h1: ¬c.kind=3:=h1
    rw[if_neg h1]at h
    refine .B ?_
    refine T.cd rfl (fun h1=> ?_) (fun h1=> ?_)
    ·have h1:c.kind=4:=h1
     rw[if_pos h1]at h
     refine .B ?_
     refine .C h ?_
     refine .B ?_
     exact⟨_,.o rfl rfl rfl (fun _=> .inl rfl) (by simp) (.v rfl rfl rfl (fun _=>rfl) .nil)⟩
    ·have h1: ¬c.kind=4:=h1
     rw[if_neg h1]at h
     refine .B ?_
     refine T.cd rfl (fun h1=> ?_) (fun h1=> ?_)
     ·have h1:c.kind=5:=h1
      rw[if_pos h1]at h
      refine .B ?_
      refine .C h ?_
      refine .B ?_
      exact⟨_,.o rfl rfl rfl (fun _=> .inl rfl) (by simp) (.v rfl rfl rfl (fun _=>rfl) .nil)⟩
     ·have h1: ¬c.kind=5:=h1
      rw[if_neg h1]at h
      refine .B ?_
      refine T.cd rfl (fun h1=> ?_) (fun h1=> ?_)
      ·have h1:c.kind=6:=h1
       rw[if_pos h1]at h
       refine .B ?_
       refine .C h ?_
       refine .B ?_
       exact⟨_,.o rfl rfl rfl (fun _=> .inl rfl) (by simp) (.v rfl rfl rfl (fun _=>rfl) .nil)⟩
      ·have h1: ¬c.kind=6:=h1
       rw[if_neg h1]at h
       refine .B ?_
       refine .C h ?_
       refine .B ?_
       exact⟨_,.o rfl rfl rfl (fun _=> .inl rfl) (by simp) (.v rfl rfl rfl (fun _=>rfl) .nil)⟩
theorem fN {n:Nat}{d:aa}(gd:GoodD n d): ∀x∈d,x.length*64+1048576≤140737488355328:=fun x hx=>by
 have:=gd.few.few x hx
 have:=bE (gd.few.fine x hx).ok
 omega
theorem rq {d:aa}{c:Con}(gd:GoodD d.length d)(h:SumOk d c):Spec Tryz.prog 139 false [aH d,.agg (cC c)] (aU (gD c d)):=by
 obtain⟨M,hM⟩:=gC h
 exact tn d c h.fine (fN gd) _ M hM
theorem AL {d:aa}{c:Con}(hk:c.kind=1)(hr:rightR d c=true):c=AM c.vars∧c.vars.Nodup∧c.vars≠[]:=by
 obtain⟨kind,vars,coefs,op,rhs,rows,b⟩:=c
 simp only at hk
 subst hk
 simp only[rightR,noneR,plainR,bareR,manyR,Bool.and_eq_true,decide_eq_true_eq,if_neg (by decide: ¬(1:Int)=0),if_pos]at hr
 obtain⟨⟨h1,⟨⟨h2,h3⟩,h4⟩,h5⟩,h6,h7⟩:=hr
 obtain rfl:=List.eq_nil_of_length_eq_zero h1
 obtain rfl:=List.eq_nil_of_length_eq_zero h5
 subst h2 h3 h4
 exact⟨rfl,h7,List.ne_nil_of_length_pos h6⟩
theorem B5 {d:aa}{c:Con}(gd:GoodD d.length d)(hc:ConB c)(h:conR d c=0)(hk:c.kind=1):Spec Tryz.prog 133 false [aH d,.agg (cC c)] (aU (gT d c.vars)):=by
 obtain⟨_,hv,hr,_⟩:=di hc h
 obtain⟨e,h1,h2⟩:=AL hk hr
 have a:=uG d c.vars gd.few ⟨h1,hv.2⟩ h2
 rw[←e]at a
 exact a
theorem A8 {d:aa}{c:Con}(gd:GoodD d.length d)(h:ReifOk d c):Spec Tryz.prog 136 false [aH d,.agg (cC c)] (aU (nR c d)):=by
 have hsm:=fN gd
 have e:nR c d=sK d c (gD (bJ c) d) (gD (bL (bJ c)) d):=if_pos h.truth
 rw[e]
 exact vC d c h.sum.fine.in_ h.con h.b (fun x hx=>by have:=hsm x hx;omega) _ _ (fun _ _ _ _=>rq gd h.sum) (fun _ _ _ _ _=>rq gd h.sumN)
theorem Bv {c:Con}(h:c.kind≠4):usesR c=aT c.vars:=by unfold usesR;rw[if_neg h]
theorem pe {d:aa}{c:Con}(gd:GoodD d.length d)(hc:ConB c)(h:conR d c=0)(hk:c.kind=5):Spec Tryz.prog 137 false [aH d,.agg (cC c)] (aU (bK c d)):=by
 have hcl:=yu hc h hk
 have hsm:=fN gd
 have e:bK c d=ju d c:=by
  unfold bK
  rw[if_neg (by omega),if_neg (by omega),if_neg (by omega),if_neg (by omega),Bv (by omega)]
  exact un hcl hk gd.few.fine
 rw[e]
 exact rt d c (AP hcl gd.few.small fun x hx=>by have:=hsm x hx;omega)
theorem BS {d:aa}{c:Con}(gd:GoodD d.length d)(hv:cK d c):Spec Tryz.prog 138 false [aH d,.agg (cC c)] (aU (vG c d)):=by
 obtain⟨R,N,h1,_⟩:=pL (c:=c) (d:=d) hv gd.few.fine
 have h2:=h1
 rw[if_neg gd.some']at h2
 obtain rfl:=tE h2
 exact u4 d c hv ⟨gd.few.small,fun x hx=>by have:=fN gd x hx;omega⟩ _ N h1
theorem yn {d:aa}{vs:List Int}{i:Int}(h0:0≤i)(h1:i.toNat<(vs.drop 2).length):elemIn d vs i= !decide (elemM d vs i=[]):=by
 have h2:i.toNat+2<vs.length:=by simp at h1;omega
 unfold elemIn
 rw[decide_eq_true h0,decide_eq_true h2];rfl
theorem vU (d:aa)(vs:List Int)(i:Int)(h2:2≤vs.length)(hv: ∀v∈vs,0≤v∧v.toNat<d.length)(hvl:vs.length*8≤140737488355328)(hx: ∀x∈d,x.length*32≤140737488355328):
  Spec Tryz.prog 188 false [.int .i64 i,.ptr [aA (vs.drop 2)],.ptr [aH d],.ptr [.int .i64 (vs.getD 1 0)]] [.val (.bool (!elemIn d vs i))]:=by
 refine Spec.body Tryz.func188 rfl rfl rfl fun w0 Z0=> ?_
 have hr:=hv (vs.getD 1 0) (cT (by omega))
 have hrow:(d.map cD)[(vs.getD 1 0).toNat]? =some (cD (domAt d (vs.getD 1 0))):=by rw[List.getElem?_map,ak hr.2];rfl
 have hM:elemM d vs i=bu (domAt d (vs.getD (i.toNat+2) 0)) (domAt d (vs.getD 1 0)):=rfl
 have hIn:= @yn d vs i
 have hno: ¬(0≤i∧i.toNat<(vs.drop 2).length)→elemIn d vs i=false:=fun h=>by
  unfold elemIn
  by_cases h0:0≤i
  ·have: ¬i.toNat+2<vs.length:=fun e=>h ⟨h0,by simp;omega⟩
   rw[decide_eq_false this];simp
  ·rw[decide_eq_false h0];rfl
 have hat: ∀h:i.toNat<(vs.drop 2).length,(vs.drop 2)[i.toNat]=vs.getD (i.toNat+2) 0:=fun h=>by rw[List.getElem_drop,aM (by simp at h;omega)];congr 1;omega
 have hin: ∀h:i.toNat<(vs.drop 2).length,vs.getD (i.toNat+2) 0∈vs:=fun h=>cT (by simp at h;omega)
 have hls:(vs.drop 2).length≤vs.length:=by simp
 generalize vs.drop 2=ls at*
 generalize vs.getD 1 0=r at*
 generalize elemIn d vs i=b at*
 generalize elemM d vs i=M at*
 refine .B ?_
 refine J.g rfl rfl rfl (fun h3=> ?_) (fun h3=> ?_)
 ·refine .B ?_
  rw[hno (by omega)]
  exact r1
 ·refine .B ?_
  refine J.g rfl rfl rfl (fun h4=> ?_) (fun h4=> ?_)
  ·refine .B ?_
   rw[hno (by simp at h4;omega)]
   exact r1
  ·have h4:i.toNat<ls.length:=by simp at h4;omega
   have hvi:=hv _ (hin h4)
   have hri:(d.map cD)[(vs.getD (i.toNat+2) 0).toNat]? =some (cD (domAt d (vs.getD (i.toNat+2) 0))):=by rw[List.getElem?_map,ak hvi.2];rfl
   have hli:(ls.map cI)[i.toNat]? =some (cI (vs.getD (i.toNat+2) 0)):=by rw[List.getElem?_map,List.getElem?_eq_getElem h4,hat h4];rfl
   have hx1:=hx _ (af hvi.2)
   have hx2:=hx _ (af hr.2)
   rw[hIn (by omega) h4]
   refine .B ?_
   refine J.i rfl rfl rfl rfl rfl rfl rfl rfl rfl (r:=cI (vs.getD (i.toNat+2) 0)) (by omega) hli rfl ?_
   refine .B ?_
   refine J.i rfl rfl rfl rfl rfl rfl rfl rfl rfl (r:=cD (domAt d (vs.getD (i.toNat+2) 0))) hvi.1 hri rfl ?_
   refine .B ?_
   refine J.i rfl rfl rfl rfl rfl rfl rfl rfl rfl (r:=cD (domAt d r)) hr.1 hrow rfl ?_
   refine .B ?_
   refine J.cc rfl rfl rfl rfl rfl (lP _ _ (by omega)) rfl rfl ?_
   refine .B ?_
   have e:decide (((((bu (domAt d (vs.getD (i.toNat+2) 0)) (domAt d r)).map cR).length:Nat):Int)=0)= !(!decide (M=[])):=by rw[hM];simp
   exact⟨_,.v rfl rfl (by rw[←e]) (fun _=>rfl) .nil⟩
theorem ue {d:aa}{c:Con}(h: []∈d):qC d c=none:=if_pos h
set_option maxHeartbeats 1000000 in
theorem ub {n:Nat}(d:aa)(c:Con)(gd: []∉d→GoodD n d)(fd:FewD d)(hc:ConB c)(hn:c.vars.Nodup)(h3:3≤c.vars.length)(hv: ∀v∈c.vars,0≤v∧v.toNat<d.length):
  Spec Tryz.prog 135 false [aH d,.agg (cC c)] (aU (qC d c)):=by
 refine Spec.body Tryz.func135 rfl rfl rfl fun w0 Z0=> ?_
 generalize hR:qC d c=R
 have hdl:=fd.small
 have hx: ∀x∈d,x.length≤4096:=fun x hm=>by have:=bE (fd.fine x hm).ok;have:=fd.few x hm;omega
 obtain⟨h1,h2,h5,h4⟩:=hc
 refine .B ?_
 refine T.sub (Rel.unbx (s:=2) (fun _ h=>h) rfl rfl) ?_
 refine T.sub (Rel.fp (s:=2) rfl) ?_
 refine T.sub (Rel.unbx (s:=3) (fun _ h=>h) rfl rfl) ?_
 refine T.sub (Rel.own0 (s:=6) 54 1 rfl) ?_
 refine T.K (T.listI d (fun pre=>[]∉pre) (fun n pre post=>⟨[(2,.val false (.ptr [aH d])),(3,.fptr false (cC c)),(6,.ref 0),(16,.val false (aH d)),(17,.val true (.int .i64 (d.map cD).length)),(18,.val true (.int .i64 n))],[(0,some (.sl 54 1 true (pre.map cD)))],1⟩) (fun _ _ h=>h) (by simp) ?_ ?_)
 ·rintro n pre x post h hn hi ih
  have hlt:=bZ h hn
  have hxl:=hx x (by rw[h];simp)
  refine .B ?_
  refine T.ct2 rfl (bY h hn) ?_
  refine .B ?_
  refine .I (r:=cD x) (aP h hn) ?_
  refine .B ?_
  refine T.cd rfl (fun h5=> ?_) (fun h5=> ?_)
  ·have hxe:x=[]:=by simp at h5;exact h5
   have:R=none:=by rw[←hR,ue (by rw[h,hxe];simp)]
   subst this
   refine .B ?_
   exact⟨_,.ownN rfl (.v rfl rfl rfl (fun _=>rfl) .nil)⟩
  ·have hxe:x≠[]:=fun e=>h5 (by rw[e];rfl)
   refine .B ?_
   refine .C (bN x (by omega)).frz ?_
   refine .B ?_
   refine .V ?_
   refine J.aD rfl rfl rfl rfl rfl rfl rfl rfl rfl rfl rfl rfl rfl rfl rfl rfl rfl rfl rfl (by omega) ?_
   refine .B ?_
   rw[aj hlt (by omega)]
   exact T.K (ih (by simp[hi,Ne.symm hxe]))
 ·intro hne
  have gd:=gd hne
  unfold qC at hR
  rw[if_neg hne]at hR
  refine .B ?_
  refine T.cf2 rfl bl ?_
  refine .B ?_
  have hr0:(c.vars.map cI)[(0:Int).toNat]? =some (cI (c.vars.getD 0 0)):=by rw[List.getElem?_map,List.getElem?_eq_getElem (show(0:Int).toNat<c.vars.length by simp;omega),aM (by omega)];rfl
  have hr1:(c.vars.map cI)[(1:Int).toNat]? =some (cI (c.vars.getD 1 0)):=by rw[List.getElem?_map,List.getElem?_eq_getElem (show(1:Int).toNat<c.vars.length by simp;omega),aM (by omega)];rfl
  refine T.rdw 16 rfl (by kernel_rfl) rfl ?_
  refine .B ?_
  refine .I (r:=cI (c.vars.getD 0 0)) hr0 ?_
  refine .B ?_
  refine .I (r:=cI (c.vars.getD 1 0)) hr1 ?_
  refine .B ?_
  refine J.s3 (enc:=cI) (l:=c.vars) 2 rfl rfl rfl rfl rfl rfl rfl rfl rfl (fun _=>rfl) rfl (by omega) ?_
  refine .B ?_
  refine .L ?_
  refine .B ?_
  refine .L ?_
  refine .B ?_
  refine J.wd rfl rfl rfl rfl rfl rfl rfl rfl rfl rfl ?_
  refine .B ?_
  refine J.wd rfl rfl rfl rfl rfl rfl rfl rfl rfl rfl ?_
  refine .B ?_
  refine⟨by kernel_rfl,?_⟩
  refine .B ?_
  refine J.sub (Rel.unbx (s:=10) (fun _ h=>h) rfl rfl) ?_
  refine J.sub (Rel.fp (s:=10) rfl) ?_
  refine J.sub (Rel.unbx (s:=11) (fun _ h=>h) rfl rfl) ?_
  refine J.sub (Rel.fp (s:=11) rfl) ?_
  have hvi:=hv _ (cT (show 0<c.vars.length by omega))
  have hvr:=hv _ (cT (show 1<c.vars.length by omega))
  have hdi:=af hvi.2
  have hri:(d.map cD)[(c.vars.getD 0 0).toNat]? =some (cD (domAt d (c.vars.getD 0 0))):=by rw[List.getElem?_map,ak hvi.2];rfl
  refine J.i rfl rfl rfl rfl rfl rfl rfl rfl rfl (r:=cD (domAt d (c.vars.getD 0 0))) hvi.1 hri rfl ?_
  refine .B ?_
  have hvs:=ij (domAt d (c.vars.getD 0 0)) (fd.fine _ hdi).domB.1 (by have:=hx _ hdi;omega)
  rw[List.take_of_length_le (show _≤4097 by have:=fd.few _ hdi;omega)]at hvs
  refine .C hvs ?_
  refine .B ?_
  have hdel:=rE (p:=fun i=> !elemIn d c.vars i) (f:=188) [.ptr [aA (c.vars.drop 2)],.ptr [aH d],.ptr [.int .i64 (c.vars.getD 1 0)]] (vals (domAt d (c.vars.getD 0 0))) (fun i _=>vU d c.vars i (by omega) hv (by omega) fun x hm=>by have:=hx x hm;omega) (by have:=fd.few _ hdi;omega)
  rw[show(vals (domAt d (c.vars.getD 0 0))).filter (fun x=> !!elemIn d c.vars x)=elemPl d c.vars by simp[elemPl]]at hdel
  refine J.cp (cs2:=[]) (qs:=[]) [] rfl rfl rfl rfl rfl rfl rfl rfl hdel trivial rfl rfl rfl rfl rfl rfl ?_
  refine .B ?_
  have hpin: ∀i∈elemPl d c.vars,0≤i∧i.toNat+2<c.vars.length:=fun i hi=>by
   obtain⟨_,a1,a2,_⟩:=(ii gd c.vars i).1 hi
   exact⟨a1,a2⟩
  have hpll:(elemPl d c.vars).length≤4096:=Nat.le_trans (List.length_filter_le _ _) (fd.few _ hdi)
  have hmay:=fun l=>uf gd c.vars l
  have hrr:(d.map cD)[(c.vars.getD 1 0).toNat]? =some (cD (domAt d (c.vars.getD 1 0))):=by rw[List.getElem?_map,ak hvr.2];rfl
  unfold rD at hR
  generalize elemPl d c.vars=l at*
  refine T.cd rfl (fun h5=> ?_) (fun h5=> ?_)
  ·have h5:l=[]:=by simp at h5;exact h5
   rw[if_pos h5]at hR
   subst hR
   refine .B ?_
   exact⟨_,.ownN rfl (.v rfl rfl rfl (fun _=>rfl) .nil)⟩
  ·have h5: ¬l=[]:=fun e=>h5 (by rw[e];rfl)
   rw[if_neg h5]at hR
   refine .B ?_
   refine T.sub (Rel.own0 (s:=13) 53 2 rfl) ?_
   refine T.K (T.list l (fun n pre post=>⟨[(2,.val false (.ptr [aH d])),(6,.ref 0),(9,.val true (.int .i64 (c.vars.getD 0 0))),(10,.val true (.ptr [.int .i64 (c.vars.getD 1 0)])),(11,.val false (.ptr [aA (c.vars.drop 2)])),(12,.ref 1),(13,.ref 2),(52,.ref 1),(53,.val true (.int .i64 (l.map cI).length)),(54,.val true (.int .i64 n))],[(0,some (.sl 54 1 true (d.map cD))),(1,some (.sl 3 1 true (l.map cI))),(2,some (.sl 53 2 true ((elemMay d c.vars pre).map cR)))],3⟩) (fun _ _ h=>h) ?_ ?_)
   ·rintro n pre v post h hn ih
    have hlt:=bZ h hn
    have hvv:=hpin v (by rw[h];simp)
    refine .B ?_
    refine T.ct2 rfl (bY h hn) ?_
    refine .B ?_
    refine J.io rfl rfl rfl rfl rfl rfl rfl rfl rfl (by omega) (by simp;omega) rfl ?_
    refine .B ?_
    refine J.lo rfl rfl rfl rfl rfl rfl (r:=cI v) (aP h hn) rfl ?_
    refine .B ?_
    have hvin:=hv _ (cT hvv.2)
    have hls:((c.vars.drop 2).map cI)[v.toNat]? =some (cI (c.vars.getD (v.toNat+2) 0)):=by
     rw[List.getElem?_map,List.getElem?_drop,Nat.add_comm 2,List.getElem?_eq_getElem hvv.2,aM hvv.2];rfl
    have hrv:(d.map cD)[(c.vars.getD (v.toNat+2) 0).toNat]? =some (cD (domAt d (c.vars.getD (v.toNat+2) 0))):=by rw[List.getElem?_map,ak hvin.2];rfl
    have hx1:=hx _ (af hvin.2)
    have hx2:=hx _ (af hvr.2)
    have hmy:=hmay pre
    have hme:=d6 gd c.vars v
    have hmr:=nb hme.1 fun x hx=>(gd.few.at _).2.2 x ((hme.2 x).1 hx).1
    have hml:(elemM d c.vars v).length≤4096:=by
     have a1:=bE hme.1
     have a2:=bU (aE hme.1) fun x hx=>((hme.2 x).1 hx).1
     have:=(gd.few.at (c.vars.getD (v.toNat+2) 0)).1
     omega
    have hnx:elemMay d c.vars (pre++[v])=oz (elemMay d c.vars pre) (elemM d c.vars v):=by simp[elemMay]
    have hmeet:=lP (domAt d (c.vars.getD (v.toNat+2) 0)) (domAt d (c.vars.getD 1 0)) (by omega)
    have hjoin:=vW (elemMay d c.vars pre) (elemM d c.vars v) (by omega) fun r hr=>by
     rcases List.mem_append.1 hr with hr|hr
     ·exact hmy.2 r hr
     ·exact hmr r hr
    rw[show bu (domAt d (c.vars.getD (v.toNat+2) 0)) (domAt d (c.vars.getD 1 0))=elemM d c.vars v from rfl]at hmeet
    rw[hnx]at ih
    have hw1:=aj hlt (by omega)
    refine J.i rfl rfl rfl rfl rfl rfl rfl rfl rfl (r:=cI (c.vars.getD (v.toNat+2) 0)) (by omega) hls rfl ?_
    refine .B ?_
    refine J.i rfl rfl rfl rfl rfl rfl rfl rfl rfl (r:=cD (domAt d (c.vars.getD (v.toNat+2) 0))) hvin.1 hrv rfl ?_
    refine .B ?_
    refine J.i rfl rfl rfl rfl rfl rfl rfl rfl rfl (r:=cD (domAt d (c.vars.getD 1 0))) hvr.1 hrr rfl ?_
    refine .B ?_
    refine .C hmeet ?_
    refine .B ?_
    refine .C hjoin ?_
    refine .B ?_
    rw[hw1]
    exact T.K ih
   ·have hof:=(kd l (by omega)).frz
    have hml:=(hmay l).1
    generalize elemMay d c.vars l=may at*
    generalize domOfP l=of at*
    refine .B ?_
    refine T.cf2 rfl bl ?_
    refine .B ?_
    refine .C hof ?_
    refine .B ?_
    refine J.io rfl rfl rfl rfl rfl rfl rfl rfl rfl hvi.1 (by simp;exact hvi.2) rfl ?_
    refine J.w1 rfl rfl rfl rfl rfl rfl rfl rfl rfl rfl rfl (enc:=cD) (z:=of.1) (fun _=>rfl) (by simp;exact hvi.2) ?_
    refine J.sub (Rel.frz (s:=13) (fun _ h=>h) rfl rfl) ?_
    refine .B ?_
    refine J.io rfl rfl rfl rfl rfl rfl rfl rfl rfl hvr.1 (by simp;exact hvr.2) rfl ?_
    refine J.w1 rfl rfl rfl rfl rfl rfl rfl rfl rfl rfl rfl (enc:=cD) (z:=may) (fun _=>rfl) (by simp;exact hvr.2) ?_
    refine .B ?_
    refine T.cd rfl (fun h6=> ?_) (fun h6=> ?_)
    ·have h6:l.length=1:=by simp at h6;omega
     have hl0:(l.map cI)[(0:Int).toNat]? =some (cI (l.getD 0 0)):=by rw[List.getElem?_map,List.getElem?_eq_getElem (show(0:Int).toNat<l.length by simp;omega),aM (by omega)];rfl
     have hm0:l.getD 0 0∈l:=by rw[aM (by omega)];exact List.getElem_mem _
     obtain⟨b1,b2⟩:=hpin _ hm0
     have hvin:=hv _ (cT b2)
     rw[if_pos h6]at hR
     generalize l.getD 0 0=i0 at*
     have hls:((c.vars.drop 2).map cI)[i0.toNat]? =some (cI (c.vars.getD (i0.toNat+2) 0)):=by
      rw[List.getElem?_map,List.getElem?_drop,Nat.add_comm 2,List.getElem?_eq_getElem b2,aM b2];rfl
     subst hR
     refine .B ?_
     refine T.rdm 10 rfl (by kernel_rfl) rfl ?_
     refine .B ?_
     refine J.io rfl rfl rfl rfl rfl rfl rfl rfl rfl (by omega) (by simp;omega) rfl ?_
     refine .B ?_
     refine J.lo rfl rfl rfl rfl rfl rfl (r:=cI i0) hl0 rfl ?_
     refine .B ?_
     refine J.i rfl rfl rfl rfl rfl rfl rfl rfl rfl (r:=cI (c.vars.getD (i0.toNat+2) 0)) b1 hls rfl ?_
     refine .B ?_
     refine .C (bN may (by omega)).frz ?_
     refine .B ?_
     refine J.io rfl rfl rfl rfl rfl rfl rfl rfl rfl hvin.1 (by simp;exact hvin.2) rfl ?_
     refine .B ?_
     refine J.w1 rfl rfl rfl rfl rfl rfl rfl rfl rfl rfl rfl (enc:=cD) (z:=may) (fun _=>rfl) (by simp;exact hvin.2) ?_
     refine .B ?_
     exact⟨_,.o rfl rfl rfl (fun _=> .inl rfl) (by simp) (.v rfl rfl rfl (fun _=>rfl) .nil)⟩
    ·have h6: ¬l.length=1:=by simp at h6;omega
     rw[if_neg h6]at hR
     subst hR
     refine .B ?_
     exact⟨_,.o rfl rfl rfl (fun _=> .inl rfl) (by simp) (.v rfl rfl rfl (fun _=>rfl) .nil)⟩
theorem sg {α:Type}{l:List α}{i:Nat}(p:α→Bool)(h:i<l.length):(l.take (i+1)).filter p=(l.take i).filter p++(if p l[i]=true then [l[i]]else []):=by
 rw[List.take_succ_eq_append_getElem h,List.filter_append]
 congr 1
 by_cases hp:p l[i]=true
 ·rw[if_pos hp,List.filter_cons_of_pos hp];rfl
 ·rw[if_neg hp,List.filter_cons_of_neg hp];rfl
theorem uJ (d:aa)(c:Con)(hdl:d.length*24≤140737488355328)(hx: ∀x∈d,x.length*16≤140737488355328)(hc:ConB c)(hv: ∀v∈c.vars,0≤v∧v.toNat<d.length)(hr: ∀r∈c.rows,r.length=c.vars.length):
  Spec Tryz.prog 186 false [aH d,.agg (cC c)] [.own 24 1 ((rowsP d c).map cL)]:=by
 refine Spec.body Tryz.func186 rfl rfl rfl fun w0 Z0=> ?_
 obtain⟨h1,h2,h3,h4⟩:=hc
 refine .B ?_
 refine T.scope (fun _ _ h=>h) ?_
 refine .B ?_
 refine T.sub (Rel.own0 (s:=5) 24 1 rfl) ?_
 refine T.K (T.ind (fun i:Nat=>⟨[(0,.val false (aH d)),(3,.optr 0 0 0 0),(5,.ref 1),(11,.val false (bT c.rows)),(12,.val true (.int .i64 (c.rows.map cL).length)),(13,.val true (.int .i64 i))],[(0,some (.box false (cC c))),(1,some (.sl 24 1 true (((c.rows.take i).filter (kC d c.vars)).map cL)))],2⟩) (fun i=>i≤c.rows.length) (fun i=>c.rows.length-i) 0 (by simp) (fun _ _ h=>h) ?_)
 rintro i hi ih
 refine .B ?_
 refine T.cd rfl (fun h5=> ?_) (fun h5=> ?_)
 ·have h5:i<c.rows.length:=by simpa using h5
  have hrl:=hr _ (List.getElem_mem h5)
  have hr8:=h4 _ (List.getElem_mem h5)
  have hfl:((c.rows.take i).filter (kC d c.vars)).length≤i:=Nat.le_trans (List.length_filter_le _ _) (by simp;omega)
  have ih1:=ih (i+1) (by omega) (by omega)
  rw[sg _ h5]at ih1
  have hrow:(c.rows.map cL)[((i:Nat):Int).toNat]? =some (cL c.rows[i]):=by simp[h5]
  generalize (c.rows.take i).filter (kC d c.vars)=out at*
  generalize c.rows[i]=r at*
  have hw1:IntKind.i64.wrap ((i:Int)+1)=((i+1:Nat):Int):=aj (l:=c.rows.length) h5 (by omega)
  refine .B ?_
  refine .I (r:=cL r) hrow ?_
  refine .B ?_
  refine T.K (T.ind (fun k:Nat=>⟨[(0,.val false (aH d)),(3,.optr 0 0 0 0),(5,.ref 1),(7,.val false (aA r)),(11,.val false (bT c.rows)),(12,.val true (.int .i64 (c.rows.map cL).length)),(13,.val true (.int .i64 i)),(18,.val false (aA c.vars)),(19,.val true (.int .i64 (c.vars.map cI).length)),(20,.val true (.int .i64 k))],[(0,some (.box false (cC c))),(1,some (.sl 24 1 true (out.map cL)))],2⟩)
   (fun k=>k≤c.vars.length∧∀j,j<k→hasV (domAt d (c.vars.getD j 0)) (r.getD j 0)=true) (fun k=>c.vars.length-k) 0 ⟨by simp,fun j hj=>absurd hj (Nat.not_lt_zero j)⟩ (fun _ _ h=>h) ?_)
  rintro k ⟨hk,hb⟩ ih2
  refine .B ?_
  refine T.cd rfl (fun h6=> ?_) (fun h6=> ?_)
  ·have h6:k<c.vars.length:=by simpa using h6
   have h7:k<r.length:=by omega
   have hvk:=hv _ (List.getElem_mem h6)
   have hdx:=hx _ (af hvk.2)
   have hrd:(d.map cD)[c.vars[k].toNat]? =some (cD (domAt d c.vars[k])):=by simp[ak hvk.2]
   have hg1:c.vars.getD k 0=c.vars[k]:=aM h6
   have hg2:r.getD k 0=r[k]:=aM h7
   have hkv:(c.vars.map cI)[((k:Nat):Int).toNat]? =some (cI c.vars[k]):=bq h6
   have hkr:(r.map cI)[((k:Nat):Int).toNat]? =some (cI r[k]):=bq h7
   have hno:hasV (domAt d c.vars[k]) r[k]=false→kC d c.vars r=false:=fun hf=>by
    cases hh:kC d c.vars r with
    |false=>rfl
    |true=>
     have:=(qP (p:=fun v x=>hasV (domAt d v) x) hrl).1 hh k c.vars[k] (List.getElem?_eq_getElem h6)
     rw[hg2]at this
     rw[hf]at this;cases this
   have hyes:hasV (domAt d c.vars[k]) r[k]=true→∀j,j<k+1→hasV (domAt d (c.vars.getD j 0)) (r.getD j 0)=true:=fun hf j hj=>by
    by_cases e:j=k
    ·rw[e,hg1,hg2];exact hf
    ·exact hb j (by omega)
   generalize c.vars[k]=v at*
   generalize r[k]=x at*
   refine .B ?_
   refine .I (r:=cI v) hkv ?_
   refine .B ?_
   refine J.i rfl rfl rfl rfl rfl rfl rfl rfl rfl (r:=cD (domAt d v)) hvk.1 hrd rfl ?_
   refine .B ?_
   refine .I (r:=cI x) hkr ?_
   refine .B ?_
   refine .C (jr (domAt d v) x hdx) ?_
   cases hh:hasV (domAt d v) x with
   |false=>
    refine .B ?_
    refine T.ct rfl ?_
    refine .B ?_
    rw[hno hh]at ih1
    simp only[Bool.false_eq_true,if_false,List.append_nil]at ih1
    rw[hw1]
    exact T.K ih1
   |true=>
    refine .B ?_
    refine T.cf rfl ?_
    refine .B ?_
    rw[aj (l:=c.vars.length) h6 (by omega)]
    exact T.K (ih2 (k+1) ⟨by omega,hyes hh⟩ (by omega))
  ·have h6:k=c.vars.length:=by simp at h6;omega
   subst h6
   have hin:kC d c.vars r=true:=(qP (p:=fun v x=>hasV (domAt d v) x) hrl).2 fun j v hj=>by
    have hjl:=(List.getElem?_eq_some_iff.1 hj).1
    have:=hb j hjl
    rw[List.getD_eq_getElem?_getD,hj]at this
    exact this
   rw[hin]at ih1
   simp only[if_true]at ih1
   refine .B ?_
   refine .C (dO r hr8).frz ?_
   refine .B ?_
   refine .V ?_
   refine .B ?_
   refine J.a1 (enc:=cL) (x:=r) (B:=24) rfl rfl rfl rfl rfl rfl rfl rfl rfl rfl rfl rfl rfl rfl rfl rfl rfl rfl rfl rfl (by omega) ?_
   refine .B ?_
   rw[hw1]
   exact T.K ih1
 ·have h5:i=c.rows.length:=by simp at h5;omega
  subst h5
  rw[List.take_length]
  refine .B ?_
  exact⟨_,.o rfl rfl rfl (fun _=> .inl rfl) (by simp) .nil⟩
theorem uM {d:aa}{c:Con}(h: []∈d):tabO d c=none:=if_pos h
theorem sd (d:aa)(c:Con)(hdl:d.length*24≤140737488355328)(hx: ∀x∈d,(x.length+1)*16≤140737488355328)(hc:ConB c)(hv: ∀v∈c.vars,0≤v∧v.toNat<d.length)(hr: ∀r∈c.rows,r.length=c.vars.length)(hfew:c.rows.length≤1024):
  Spec Tryz.prog 134 false [aH d,.agg (cC c)] (aU (tabO d c)):=by
 refine Spec.body Tryz.func134 rfl rfl rfl fun w0 Z0=> ?_
 generalize hR:tabO d c=R
 have hcb:=hc
 obtain⟨h1,h2,h3,h4⟩:=hc
 refine .B ?_
 refine T.sub (Rel.own0 (s:=6) 54 1 rfl) ?_
 refine T.K (T.listI d (fun pre=>[]∉pre) (fun n pre post=>⟨[(0,.val false (aH d)),(3,.optr 0 0 0 0),(6,.ref 1),(15,.val false (aH d)),(16,.val true (.int .i64 (d.map cD).length)),(17,.val true (.int .i64 n))],[(0,some (.box false (cC c))),(1,some (.sl 54 1 true (pre.map cD)))],2⟩) (fun _ _ h=>h) (by simp) ?_ ?_)
 ·rintro n pre x post h hn hi ih
  have hlt:=bZ h hn
  have hxl:=hx x (by rw[h];simp)
  refine .B ?_
  refine T.ct2 rfl (bY h hn) ?_
  refine .B ?_
  refine .I (r:=cD x) (aP h hn) ?_
  refine .B ?_
  refine T.cd rfl (fun h5=> ?_) (fun h5=> ?_)
  ·have hxe:x=[]:=by simp at h5;exact h5
   have:R=none:=by rw[←hR,uM (by rw[h,hxe];simp)]
   subst this
   refine .B ?_
   exact⟨_,.ownN rfl (.v rfl rfl rfl (fun _=>rfl) .nil)⟩
  ·have hxe:x≠[]:=fun e=>h5 (by rw[e];rfl)
   refine .B ?_
   refine .C (bN x (by omega)).frz ?_
   refine .B ?_
   refine .V ?_
   refine J.aD rfl rfl rfl rfl rfl rfl rfl rfl rfl rfl rfl rfl rfl rfl rfl rfl rfl rfl rfl (by omega) ?_
   refine .B ?_
   rw[aj hlt (by omega)]
   exact T.K (ih (by simp[hi,Ne.symm hxe]))
 ·intro hne
  unfold tabO at hR
  rw[if_neg hne]at hR
  refine .B ?_
  refine T.cf2 rfl bl ?_
  refine .B ?_
  refine .C (uJ d c hdl (fun x hm=>by have:=hx x hm;omega) hcb hv hr).frz ?_
  have hrl:(rowsP d c).length≤1024:=Nat.le_trans (List.length_filter_le _ _) hfew
  have hrr: ∀r∈rowsP d c,r.length=c.vars.length:=fun r hm=>hr r (List.mem_filter.1 hm).1
  generalize rowsP d c=rows at*
  refine .B ?_
  refine T.cd rfl (fun h5=> ?_) (fun h5=> ?_)
  ·have h5:rows=[]:=by simp at h5;exact h5
   rw[if_pos h5]at hR
   subst hR
   refine .B ?_
   exact⟨_,.ownN rfl (.v rfl rfl rfl (fun _=>rfl) .nil)⟩
  ·have h5: ¬rows=[]:=fun e=>h5 (by rw[e];rfl)
   rw[if_neg h5]at hR
   refine .B ?_
   refine T.K (T.ind (fun s:Nat×aa=>⟨[(6,.ref 0),(9,.val true (bT rows)),(37,.val false (aA c.vars)),(38,.val true (.int .i64 (c.vars.map cI).length)),(39,.val true (.int .i64 s.1))],[(0,some (.sl 54 1 true (s.2.map cD)))],1⟩)
    (fun s=>s.1≤c.vars.length∧s.2.length=d.length∧some (gr rows (c.vars.drop s.1) s.1 s.2)=R) (fun s=>c.vars.length-s.1) (0,d) ⟨by simp,rfl,hR⟩ (fun _ _ h=>h) ?_)
   rintro⟨i,out⟩ ⟨hi,hol,hR⟩ ih
   simp only at hi hol hR
   dsimp only
   refine .B ?_
   refine T.cd rfl (fun h6=> ?_) (fun h6=> ?_)
   ·have h6:i<c.vars.length:=by simpa using h6
    have hvi:=hv _ (List.getElem_mem h6)
    have hkv:(c.vars.map cI)[((i:Nat):Int).toNat]? =some (cI c.vars[i]):=bq h6
    rw[List.drop_eq_getElem_cons h6,gr]at hR
    generalize c.vars[i]=v at*
    refine .B ?_
    refine .I (r:=cI v) hkv ?_
    refine .B ?_
    refine T.sub (Rel.own0 (s:=12) 3 1 rfl) ?_
    refine T.K (T.ind (fun k:Nat=>⟨[(6,.ref 0),(9,.val true (bT rows)),(10,.val true (.int .i64 i)),(11,.val true (.int .i64 v)),(12,.ref 1),(37,.val false (aA c.vars)),(38,.val true (.int .i64 (c.vars.map cI).length)),(39,.val true (.int .i64 i)),(44,.val true (bT rows)),(45,.val true (.int .i64 (rows.map cL).length)),(46,.val true (.int .i64 k))],[(0,some (.sl 54 1 true (out.map cD))),(1,some (.sl 3 1 true ((gJ (rows.take k) i).map cI)))],2⟩)
     (fun k=>k≤rows.length) (fun k=>rows.length-k) 0 (by simp) (fun _ _ h=>h) ?_)
    rintro k hk ih2
    refine .B ?_
    refine T.cd rfl (fun h7=> ?_) (fun h7=> ?_)
    ·have h7:k<rows.length:=by simpa using h7
     have hrk:=hrr _ (List.getElem_mem h7)
     have hrow:(rows.map cL)[((k:Nat):Int).toNat]? =some (cL rows[k]):=by simp[h7]
     have ih3:=ih2 (k+1) (by omega) (by omega)
     rw[List.take_succ_eq_append_getElem h7,show gJ (rows.take k++[rows[k]]) i=gJ (rows.take k) i++[rows[k].getD i 0]from List.map_append ..]at ih3
     have hcl:(gJ (rows.take k) i).length≤1024:=by simp[gJ];omega
     generalize rows[k]=r at*
     have h8:i<r.length:=by omega
     refine .B ?_
     refine .I (r:=cL r) hrow ?_
     refine .B ?_
     refine .I (r:=cI r[i]) (bq h8) ?_
     refine .B ?_
     refine .V ?_
     refine J.aI rfl rfl rfl rfl rfl rfl rfl rfl rfl rfl rfl rfl rfl rfl rfl rfl rfl rfl rfl (l:=gJ (rows.take k) i) (x:=r[i]) (by omega) ?_
     refine .B ?_
     rw[aj (l:=rows.length) h7 (by omega)]
     rw[show r.getD i 0=r[i]from aM h8]at ih3
     exact T.K ih3
    ·have h7:k=rows.length:=by simp at h7;omega
     subst h7
     rw[List.take_length]
     have hcl:(gJ rows i).length≤1024:=by simp[gJ];omega
     have hof:=(kd (gJ rows i) (by omega)).frz
     have ih3:=ih (i+1,out.set v.toNat (domOfP (gJ rows i)).1) ⟨by omega,by rw[List.length_set];exact hol,hR⟩ (by show _-_<_-_;omega)
     generalize domOfP (gJ rows i)=of at*
     refine .B ?_
     refine .C hof ?_
     refine .B ?_
     refine J.io rfl rfl rfl rfl rfl rfl rfl rfl rfl hvi.1 (by simp[hol];exact hvi.2) rfl ?_
     refine J.w1 rfl rfl rfl rfl rfl rfl rfl rfl rfl rfl rfl (enc:=cD) (z:=of.1) (fun _=>rfl) (by omega) ?_
     refine .B ?_
     rw[aj (l:=c.vars.length) h6 (by omega)]
     exact T.K ih3
   ·have h6:i=c.vars.length:=by simp at h6;omega
    subst h6
    rw[List.drop_length,gr]at hR
    subst hR
    refine .B ?_
    exact⟨_,.o rfl rfl rfl (fun _=> .inl rfl) (by simp) (.v rfl rfl rfl (fun _=>rfl) .nil)⟩
theorem Aq {d:aa}{c:Con}(gd:GoodD d.length d)(hc:ConB c)(h:conR d c=0)(hp:prodD d≤1048576):Spec Tryz.prog 105 false [aH d,.agg (cC c)] (aU (bK c d)):=by
 obtain⟨hk0,hv,hr,hin⟩:=di hc h
 have hsm:=fN gd
 suffices hh:Spec Tryz.prog (mZ c.kind) false [aH d,.agg (cC c)] (aU (bK c d))from wY hh
 have hcs:c.kind=0∨c.kind=1∨c.kind=2∨c.kind=3∨c.kind=4∨c.kind=5∨c.kind=6:=by omega
 rcases hcs with hk|hk|hk|hk|hk|hk|hk
 ·have e:bK c d=gD c d:=by unfold bK;rw[if_pos hk]
  rw[e,hk]
  exact rq gd (qX hc h hk gd.few.fine gd.few.small)
 ·have e:bK c d=gT d c.vars:=by unfold bK;rw[if_neg (by omega),if_pos hk]
  rw[e,hk]
  exact B5 gd hc h hk
 ·have hrr:(∀r∈c.rows,r.length=c.vars.length)∧c.rows.length≤1024:=by
   unfold rightR at hr
   rw[if_neg (by omega),if_neg (by omega),if_pos hk]at hr
   simp only[manyR,kB,Bool.and_eq_true,decide_eq_true_eq,List.all_eq_true]at hr
   refine⟨fun r hrm=> ?_,hr.2.2⟩
   have:=hr.2.1 r hrm
   simp only[ei,Bool.and_eq_true,decide_eq_true_eq]at this
   exact this.1
  have hp2:=sd d c gd.few.small (fun x hx=>by have:=hsm x hx;omega) hc hv.2 hrr.1 hrr.2
  rw[←yL gd hc h hk]at hp2
  rw[hk]
  exact hp2
 ·have hrr:c.vars.Nodup∧3≤c.vars.length:=by
   unfold rightR at hr
   rw[if_neg (by omega),if_neg (by omega),if_neg (by omega),if_pos hk]at hr
   simp only[manyR,Bool.and_eq_true,decide_eq_true_eq]at hr
   exact⟨hr.1.2.2,hr.2⟩
  have hp2:=ub (n:=d.length) d c (fun _=>gd) gd.few hc hrr.1 hrr.2 hv.2
  rw[←yl gd hc h hk]at hp2
  rw[hk]
  exact hp2
 ·have e:bK c d=nR c d:=by unfold bK;rw[if_neg (by omega),if_neg (by omega),if_pos hk]
  rw[e,hk]
  exact A8 gd (wF hc h hk gd.few.fine gd.few.small)
 ·have hp2:=pe gd hc h hk
  rw[hk]
  exact hp2
 ·have e:bK c d=vG c d:=by unfold bK;rw[if_neg (by omega),if_neg (by omega),if_neg (by omega),if_pos hk]
  rw[e,hk]
  exact BS gd hv
theorem Bb {d:aa}{c:Con}(gd:GoodD d.length d)(hc:ConB c)(h:RightC d c)(hp:prodD d≤1048576):Spec Tryz.prog 105 false [aH d,.agg (cC c)] (aU (bK c d)):=by
 rcases h with h|⟨hk,hs⟩
 ·exact Aq gd hc h hp
 ·have e:bK c d=gD c d:=by unfold bK;rw[if_pos hk]
  suffices hh:Spec Tryz.prog (mZ c.kind) false [aH d,.agg (cC c)] (aU (bK c d))from wY hh
  rw[e,hk]
  exact rq gd hs
theorem BN {d:List (Int×Int)}(h: ∀i,i<d.length→(d.getD i (0,0)).1≤(d.getD i (0,0)).2∧(0<i→(d.getD (i-1) (0,0)).2+2≤(d.getD i (0,0)).1)):ax d:=by
 induction d with
 |nil=>exact⟨by simp,.nil⟩
 |cons x d ih=>
  have h0:=(h 0 (by simp)).1
  have h1:=ih fun i hi=>by
   obtain⟨a,b⟩:=h (i+1) (by simp;omega)
   refine⟨a,fun hp=> ?_⟩
   obtain⟨j,rfl⟩: ∃j,i=j+1:=⟨i-1,by omega⟩
   exact b (by omega)
  refine⟨fun r hr=> ?_,List.pairwise_cons.2 ⟨fun s hs=> ?_,h1.2⟩⟩
  ·rcases List.mem_cons.1 hr with rfl|hr
   ·exact h0
   ·exact h1.1 r hr
  ·cases d with
   |nil=>cases hs
   |cons y d=>
    have h2:=(h 1 (by simp)).2 (by omega)
    have h2:x.2+2≤y.1:=h2
    rcases List.mem_cons.1 hs with rfl|hs
    ·exact h2
    ·have:=(List.pairwise_cons.1 h1.2).1 s hs
     have:=h1.1 y (.head _)
     omega
theorem sB {d:List (Int×Int)}(h:ax d):sizeI d=((vals d).length:Nat):=by
 induction d with
 |nil=>rfl
 |cons r d ih=>
  have h0:=h.1 r (.head _)
  have e:sizeI (r::d)=(r.2-r.1+1)+sizeI d:=rfl
  rw[e,ih h.tail,bg,List.length_append,show(rng r.1 r.2).length=(r.2+1-r.1).toNat by simp[rng]]
  omega
theorem rM {d:List (Int×Int)}(h:chkR d=0):Fine d∧(vals d).length≤4096:=by
 unfold chkR at h
 split at h
 ·cases h
 ·rename_i h1
  split at h
  ·cases h
  ·rename_i h2
   have hb: ∀i,i<d.length→badR d i=false:=fun i hi=>by
    cases e:badR d i with
    |false=>rfl
    |true=>exact absurd (List.any_eq_true.2 ⟨i,List.mem_range.2 hi,e⟩) h1
   have hok:ax d:=BN fun i hi=>by
    have:=hb i hi
    unfold badR at this
    simp only[Bool.or_eq_false_iff,Bool.not_eq_false',Bool.and_eq_false_iff,decide_eq_false_iff_not]at this
    obtain⟨_,_,h5,h6⟩:=this
    refine⟨by omega,fun hp=> ?_⟩
    rcases h6 with h6|h6<;>omega
   have hs:=sB hok
   have hln:(vals d).length≤4096:=by omega
   refine⟨⟨hok,fun v hv=> ?_,by omega⟩,hln⟩
   obtain⟨r,hr,h3,h4⟩:=aQ.1 hv
   obtain⟨i,hi⟩:=List.getElem?_of_mem hr
   have hil:=(List.getElem?_eq_some_iff.1 hi).1
   have:=hb i hil
   unfold badR at this
   rw[List.getD_eq_getElem?_getD,hi]at this
   simp only[Option.getD_some,Bool.or_eq_false_iff,Bool.not_eq_false',aG,decide_eq_true_eq]at this
   omega
structure Goal where
 kind:Int
 vars:List Int
 coefs:List Int
structure Mod where
 vars:List (ByteArray×List (Int×Int))
 cons:List Con
 goal:Goal
def cV (v:ByteArray×List (Int×Int)):List PV:=[.str v.1,dm v.2]
def cG (g:Goal):List PV:=[.int .i64 g.kind,aA g.vars,aA g.coefs]
def cM (m:Mod):List PV:=[.sl (m.vars.map cV),cE m.cons,.int .i64 m.goal.kind,aA m.goal.vars,aA m.goal.coefs]
def domsM (m:Mod):aa:=m.vars.map (·.2)
structure ModB (m:Mod):Prop where
 vl:m.vars.length≤1024
 vn: ∀v∈m.vars,v.1.size≤1024∧v.2.length≤1024
 cl:m.cons.length≤1024
 cb: ∀c∈m.cons,c.vars.length≤1024∧c.coefs.length≤1024∧c.rows.length≤1024∧∀r∈c.rows,r.length≤1024
 gl:m.goal.vars.length≤1024∧m.goal.coefs.length≤1024
theorem nS (m:Mod)(hm:ModB m):Spec Tryz.prog 29 false [.agg (cM m)] [.own 54 1 ((domsM m).map cD)]:=by
 refine Spec.body Tryz.func29 rfl rfl rfl fun w0 Z0=> ?_
 obtain⟨h1,h2,_,_,_⟩:=hm
 refine .B ?_
 refine .O ?_
 refine .B ?_
 refine T.sub (Rel.wk (o:=1) rfl) ?_
 refine T.K (T.ind (fun i:Nat=>⟨[(1,.optr 0 0 0 0),(3,.ref 1),(4,.val true (.int .i64 i))],[(0,some (.box false (cM m))),(1,some (.sl 54 1 false (((domsM m).take i).map cD)))],2⟩) (fun i=>i≤m.vars.length) (fun i=>m.vars.length-i) 0 (Nat.zero_le _) (fun _ _ h=>h) ?_)
 rintro i hi ih
 refine .B ?_
 refine T.cd rfl (fun h5=> ?_) (fun h5=> ?_)
 ·have h5:i<m.vars.length:=by simpa using h5
  have hrow:(m.vars.map cV)[((i:Nat):Int).toNat]? =some (cV m.vars[i]):=by simp[h5]
  have hv:=h2 _ (List.getElem_mem h5)
  have htk:(domsM m).take (i+1)=(domsM m).take i++[m.vars[i].2]:=by
   rw[List.take_succ_eq_append_getElem (by simpa[domsM]using h5)];simp[domsM]
  have hl:=List.length_take_le i (domsM m)
  have ih1:=ih (i+1) (by omega) (by omega)
  rw[htk]at ih1
  generalize (domsM m).take i=out at*
  generalize m.vars[i]=v at*
  refine .B ?_
  refine .I (r:=cV v) hrow ?_
  refine .B ?_
  refine .V ?_
  refine J.aD rfl rfl rfl rfl rfl rfl rfl rfl rfl rfl rfl rfl rfl rfl rfl rfl rfl rfl rfl (by omega) ?_
  refine .B ?_
  rw[aj (l:=m.vars.length) h5 (by omega)]
  exact T.K ih1
 ·have h5:i=m.vars.length:=by simp at h5;omega
  subst h5
  rw[List.take_of_length_le (by simp[domsM])]
  have hli:=vF (domsM m) (by simp[domsM];omega) fun x hx=>by
   obtain⟨v,hv,rfl⟩:=List.mem_map.1 hx
   have:=h2 v hv;omega
  generalize domsM m=d at*
  refine .B ?_
  refine .C hli ?_
  refine .B ?_
  exact⟨_,.o rfl rfl rfl (fun _=> .inl rfl) (by simp) .nil⟩
def ef (g:Goal):Con:=⟨0,g.vars,g.coefs,0,0,[],0⟩
def ep (d:aa)(g:Goal):Int:=if g.kind=1∨g.kind=2 then conR d (ef g)else if g.kind≠0∨0<g.vars.length∨0<g.coefs.length then 44 else 0
theorem yb (d:aa)(g:Goal)(hg:g.vars.length≤1024∧g.coefs.length≤1024)(hl:d.length*8≤140737488355328)(hd: ∀x∈d,x.length*8≤140737488355328):Spec Tryz.prog 33 false [aH d,.agg (cG g)] [.val (.int .i64 (ep d g))]:=by
 refine Spec.body Tryz.func33 rfl rfl rfl fun w0 Z0=> ?_
 have hcb:ConB (ef g):=⟨by simp[ef];omega,by simp[ef];omega,by simp[ef],by simp[ef]⟩
 have hcon:=ui d (ef g) hcb hl hd
 generalize hR:ep d g=R
 unfold ep at hR
 generalize conR d (ef g)=cr at*
 have yes:g.kind=1∨g.kind=2→cr=R:=fun h=>by rw[if_pos h]at hR;exact hR
 have no: ¬g.kind=1→¬g.kind=2→(if g.kind≠0∨0<g.vars.length∨0<g.coefs.length then(44:Int)else 0)=R:=fun a b=>by rw[if_neg (fun h=>h.elim a b)]at hR;exact hR
 refine .B ?_
 refine J.g rfl rfl rfl (fun h1=> ?_) (fun h1=> ?_)
 ·rw[yes (.inl h1)]at hcon
  refine .B ?_
  refine T.ct rfl ?_
  refine .B ?_
  refine .C hcon ?_
  refine .B ?_
  exact r1
 ·have h1: ¬g.kind=1:=h1
  refine .B ?_
  refine T.cd rfl (fun h2=> ?_) (fun h2=> ?_)
  ·rw[yes (.inr h2)]at hcon
   refine .B ?_
   refine .C hcon ?_
   refine .B ?_
   exact r1
  ·have h2: ¬g.kind=2:=h2
   have no:=no h1 h2
   refine .B ?_
   refine J.g rfl rfl rfl (fun h3=> ?_) (fun h3=> ?_)
   ·rw[if_pos (.inl h3)]at no
    subst no
    refine .B ?_
    refine T.ct rfl ?_
    refine .B ?_
    exact r1
   ·have h3: ¬g.kind≠0:=h3
    refine .B ?_
    refine J.g rfl rfl rfl (fun h4=> ?_) (fun h4=> ?_)
    ·rw[if_pos (.inr (.inl (by simpa using h4)))]at no
     subst no
     refine .B ?_
     refine T.ct rfl ?_
     refine .B ?_
     exact r1
    ·refine .B ?_
     refine T.cd rfl (fun h6=> ?_) (fun h6=> ?_)
     ·rw[if_pos (.inr (.inr (by simpa using h6)))]at no
      subst no
      refine .B ?_
      exact r1
     ·rw[if_neg (by
       rintro(h|h|h)
       ·exact h3 h
       ·exact h4 (by simpa using h)
       ·exact h6 (by simpa using h))]at no
      subst no
      refine .B ?_
      exact r1
def nmM (m:Mod)(i:Nat):ByteArray:=(m.vars.getD i (⟨#[]⟩,[])).1
def dmM (m:Mod)(i:Nat):List (Int×Int):=(m.vars.getD i (⟨#[]⟩,[])).2
def f9 (m:Mod)(i:Nat):Bool:=(List.range i).any fun k=>(nmM m k).toList==(nmM m i).toList
def varR (m:Mod)(i:Nat):Int:=if fF (nmM m i)=false then 40 else if f9 m i=true then 41 else if dmM m i=[]∨chkR (dmM m i)≠0 then 42 else 0
def firstE (l:List Int):Int:=(l.find? (· ≠0)).getD 0
def checkR (m:Mod):Int:=if 64<m.vars.length∨256<m.cons.length then 2 else
 if firstE ((List.range m.vars.length).map (varR m))≠0 then firstE ((List.range m.vars.length).map (varR m))else
 if firstE (m.cons.map (conR (domsM m)))≠0 then firstE (m.cons.map (conR (domsM m)))else ep (domsM m) m.goal
theorem jn {l:List Int}{i:Nat}{e:Int}(h: ∀j,j<i→∀x,l[j]? =some x→x=0)(hi:l[i]? =some e)(he:e≠0):firstE l=e:=by
 have hlt:=(List.getElem?_eq_some_iff.1 hi).1
 have:l.find? (· ≠0)=some e:=by
  rw[List.find?_eq_some_iff_getElem]
  refine⟨by simpa using he,i,hlt,(List.getElem?_eq_some_iff.1 hi).2,fun j hj=> ?_⟩
  have:=h j hj _ (List.getElem?_eq_getElem (by omega))
  simp[this]
 unfold firstE
 rw[this];rfl
theorem jm {l:List Int}(h: ∀x∈l,x=0):firstE l=0:=by
 have:l.find? (· ≠0)=none:=by
  rw[List.find?_eq_none]
  intro x hx
  simp[h x hx]
 unfold firstE
 rw[this];rfl
theorem mI {l:List Int}(h:firstE l=0): ∀x∈l,x=0:=by
 intro x hx
 unfold firstE at h
 cases hf:l.find? (· ≠0)with
 |none=>
  have:=List.find?_eq_none.1 hf x hx
  simpa using this
 |some e=>
  rw[hf]at h
  have:=List.find?_some hf
  simp at this
  exact absurd h this
theorem te (m:Mod)(hm:ModB m):Spec Tryz.prog 11 false [.agg (cM m)] [.val (.int .i64 (checkR m))]:=by
 refine Spec.body Tryz.func11 rfl rfl rfl fun w0 Z0=> ?_
 have hds:=nS m hm
 generalize hR:checkR m=R
 obtain⟨b1,b2,b3,b4,b5⟩:=hm
 have yes:64<m.vars.length∨256<m.cons.length→(2:Int)=R:=fun h=>by rw[←hR];exact(if_pos h).symm
 refine .B ?_
 refine J.g rfl rfl rfl (fun h1=> ?_) (fun h1=> ?_)
 ·have e:=yes (.inl (by simp at h1;omega))
  subst e
  refine .B ?_
  refine T.ct rfl ?_
  refine .B ?_
  exact r1
 ·refine .B ?_
  refine T.cd rfl (fun h2=> ?_) (fun h2=> ?_)
  ·have e:=yes (.inr (by simp at h2;omega))
   subst e
   refine .B ?_
   exact r1
  ·have hR:(if firstE ((List.range m.vars.length).map (varR m))≠0 then firstE ((List.range m.vars.length).map (varR m))else
     if firstE (m.cons.map (conR (domsM m)))≠0 then firstE (m.cons.map (conR (domsM m)))else ep (domsM m) m.goal)=R:=by
    unfold checkR at hR
    rw[if_neg (by simp at h1 h2;omega)]at hR
    exact hR
   have hvar: ∀i,i<m.vars.length→(∀j,j<i→varR m j=0)→varR m i≠0→R=varR m i:=fun i hi hb he=>by
    have:firstE ((List.range m.vars.length).map (varR m))=varR m i:=jn (i:=i) (fun j hj x hx=>by
     rw[List.getElem?_map,List.getElem?_range (by omega)]at hx
     rw[←Option.some.inj hx]
     exact hb j hj) (by rw[List.getElem?_map,List.getElem?_range hi];rfl) he
    rw[this,if_pos he]at hR
    exact hR.symm
   refine .B ?_
   refine T.K (T.ind (fun i:Nat=>⟨[(1,.optr 0 0 0 0),(3,.val true (.int .i64 i))],[(0,some (.box false (cM m)))],1⟩) (fun i=>i≤m.vars.length∧∀j,j<i→varR m j=0) (fun i=>m.vars.length-i) 0 ⟨Nat.zero_le _,fun j hj=>absurd hj (Nat.not_lt_zero j)⟩ (fun _ _ h=>h) ?_)
   rintro i ⟨hi,hb⟩ ih
   refine .B ?_
   refine T.cd rfl (fun h3=> ?_) (fun h3=> ?_)
   ·have h3:i<m.vars.length:=by simpa using h3
    have hv:=hvar i h3 hb
    have hvi:varR m i=if fF (nmM m i)=false then 40 else if f9 m i=true then 41 else if dmM m i=[]∨chkR (dmM m i)≠0 then 42 else 0:=rfl
    have hrowk: ∀k,k<m.vars.length→(m.vars.map cV)[((k:Nat):Int).toNat]? =some (cV (nmM m k,dmM m k)):=fun k hk=>by
     rw[Int.toNat_natCast,List.getElem?_map,List.getElem?_eq_getElem hk]
     unfold nmM dmM
     rw[List.getD_eq_getElem?_getD,List.getElem?_eq_getElem hk];rfl
    have hrow:=hrowk i h3
    have hbk: ∀k,k<m.vars.length→(nmM m k).size≤1024∧(dmM m k).length≤1024:=fun k hk=>by
     unfold nmM dmM
     rw[List.getD_eq_getElem?_getD,List.getElem?_eq_getElem hk]
     exact b2 _ (List.getElem_mem hk)
    have hns:=xS (nmM m i) (by have:=hbk i h3;omega)
    refine .B ?_
    refine .I (r:=cV (nmM m i,dmM m i)) hrow ?_
    refine .B ?_
    refine .C hns ?_
    refine .B ?_
    cases hn:fF (nmM m i)
    ·have:R=40:=by rw[hv (by rw[hvi,if_pos hn];decide),hvi,if_pos hn]
     subst this
     refine T.ct rfl ?_
     refine .B ?_
     exact r1
    ·rw[if_neg (by rw[hn];simp)]at hvi
     refine T.cf rfl ?_
     refine .B ?_
     refine T.K (T.ind (fun k:Nat=>⟨[(1,.optr 0 0 0 0),(3,.val true (.int .i64 i)),(4,.val true (.int .i64 k))],[(0,some (.box false (cM m)))],1⟩) (fun k=>k≤i∧∀j,j<k→((nmM m j).toList==(nmM m i).toList)=false) (fun k=>i-k) 0 ⟨Nat.zero_le _,fun j hj=>absurd hj (Nat.not_lt_zero j)⟩ (fun _ _ h=>h) ?_)
     rintro k ⟨hk,hbn⟩ ih2
     refine .B ?_
     refine T.cd rfl (fun h4=> ?_) (fun h4=> ?_)
     ·have h4:k<i:=by omega
      have hrk:=hrowk k (by omega)
      have htw:((nmM m k).toList==(nmM m i).toList)=true→f9 m i=true:=fun h=>List.any_eq_true.2 ⟨k,List.mem_range.2 h4,h⟩
      have ih3:=fun h:((nmM m k).toList==(nmM m i).toList)=false=>ih2 (k+1) ⟨by omega,fun j hj=>by
       by_cases e:j=k
       ·rw[e];exact h
       ·exact hbn j (by omega)⟩ (by omega)
      refine .B ?_
      refine .I (r:=cV (nmM m k,dmM m k)) hrk ?_
      refine .B ?_
      refine .I (r:=cV (nmM m i,dmM m i)) hrow ?_
      refine .B ?_
      cases he:((nmM m k).toList==(nmM m i).toList)
      ·refine T.cf rfl ?_
       refine .B ?_
       rw[aj (l:=m.vars.length) (n:=k) (by omega) (by omega)]
       exact T.K (ih3 he)
      ·have ht:=htw he
       have:R=41:=by rw[hv (by rw[hvi,if_pos ht];decide),hvi,if_pos ht]
       subst this
       refine T.ct rfl ?_
       refine .B ?_
       exact r1
     ·have h4:k=i:=by omega
      subst h4
      have htf:f9 m k=false:=by
       unfold f9
       rw[List.any_eq_false]
       intro j hj
       rw[hbn j (List.mem_range.1 hj)];simp
      rw[if_neg (by rw[htf];simp)]at hvi
      have hck:=sN (dmM m k) (by have:=hbk k h3;omega)
      have stop:dmM m k=[]∨chkR (dmM m k)≠0→R=42:=fun h=>by rw[hv (by rw[hvi,if_pos h];decide),hvi,if_pos h]
      have goon: ¬dmM m k=[]→¬chkR (dmM m k)≠0→varR m k=0:=fun a b=>by rw[hvi,if_neg (fun h=>h.elim a b)]
      have hw1:IntKind.i64.wrap ((k:Int)+1)=((k+1:Nat):Int):=aj (l:=m.vars.length) h3 (by omega)
      have ih4:=fun h:varR m k=0=>ih (k+1) ⟨by omega,fun j hj=>by
       by_cases e:j=k
       ·rw[e];exact h
       ·exact hb j (by omega)⟩ (by omega)
      generalize varR m k=vr at*
      generalize nmM m k=nm at*
      generalize dmM m k=dd at*
      generalize chkR dd=ck at*
      refine .B ?_
      refine .I (r:=cV (nm,dd)) hrow ?_
      refine .B ?_
      refine J.g rfl rfl rfl (fun h5=> ?_) (fun h5=> ?_)
      ·have e:=stop (.inl (by simpa using h5))
       subst e
       refine .B ?_
       refine T.ct rfl ?_
       refine .B ?_
       exact r1
      ·refine .B ?_
       refine .I (r:=cV (nm,dd)) hrow ?_
       refine .B ?_
       refine .C hck ?_
       refine .B ?_
       refine T.cd rfl (fun h6=> ?_) (fun h6=> ?_)
       ·have e:=stop (.inr h6)
        subst e
        refine .B ?_
        exact r1
       ·refine .B ?_
        rw[hw1]
        exact T.K (ih4 (goon (by simpa using h5) h6))
   ·have h3:i=m.vars.length:=by simp at h3;omega
    have hfz:firstE ((List.range m.vars.length).map (varR m))=0:=jm fun x hx=>by
     obtain⟨j,hj,rfl⟩:=List.mem_map.1 hx
     exact hb j (by rw[h3];exact List.mem_range.1 hj)
    rw[hfz,if_neg (by simp)]at hR
    refine .B ?_
    refine .C hds.frz ?_
    refine .B ?_
    refine T.K (T.ind (fun i:Nat=>⟨[(1,.optr 0 0 0 0),(5,.val true (aH (domsM m))),(6,.val true (.int .i64 i))],[(0,some (.box false (cM m)))],1⟩) (fun i=>i≤m.cons.length∧∀j,j<i→∀c,m.cons[j]? =some c→conR (domsM m) c=0) (fun i=>m.cons.length-i) 0 ⟨Nat.zero_le _,fun j hj=>absurd hj (Nat.not_lt_zero j)⟩ (fun _ _ h=>h) ?_)
    rintro k ⟨hk,hbc⟩ ih
    have hdl:(domsM m).length*8≤140737488355328:=by simp[domsM];omega
    have hdx: ∀x∈domsM m,x.length*8≤140737488355328:=fun x hx=>by
     obtain⟨v,hv,rfl⟩:=List.mem_map.1 hx
     have:=b2 v hv;omega
    refine .B ?_
    refine T.cd rfl (fun h4=> ?_) (fun h4=> ?_)
    ·have h4:k<m.cons.length:=by simpa[cE]using h4
     have hrow:(m.cons.map cC)[((k:Nat):Int).toNat]? =some (cC m.cons[k]):=by simp[h4]
     have hcb:=b4 _ (List.getElem_mem h4)
     have hcs:=ui (domsM m) m.cons[k] ⟨by omega,by omega,by omega,fun r hr=>by have:=hcb.2.2.2 r hr;omega⟩ hdl hdx
     have hgk:m.cons[k]? =some m.cons[k]:=List.getElem?_eq_getElem h4
     have stop:conR (domsM m) m.cons[k]≠0→R=conR (domsM m) m.cons[k]:=fun he=>by
      have:firstE (m.cons.map (conR (domsM m)))=conR (domsM m) m.cons[k]:=jn (i:=k) (fun j hj x hx=>by
       rw[List.getElem?_map]at hx
       obtain⟨c,hc,rfl⟩:=Option.map_eq_some_iff.1 hx
       exact hbc j hj c hc) (by rw[List.getElem?_map,hgk];rfl) he
      rw[this,if_pos he]at hR
      exact hR.symm
     have ih4:=fun h:conR (domsM m) m.cons[k]=0=>ih (k+1) ⟨by omega,fun j hj c hc=>by
      by_cases e:j=k
      ·rw[e,hgk]at hc;cases hc;exact h
      ·exact hbc j (by omega) c hc⟩ (by omega)
     generalize m.cons[k]=c at*
     generalize conR (domsM m) c=cr at*
     refine .B ?_
     refine .I (r:=cC c) hrow ?_
     refine .B ?_
     refine .C hcs ?_
     refine .B ?_
     refine T.cd rfl (fun h5=> ?_) (fun h5=> ?_)
     ·have e:=stop h5
      subst e
      refine .B ?_
      exact r1
     ·have h5:cr=0:=Classical.byContradiction h5
      refine .B ?_
      rw[aj (l:=m.cons.length) h4 (by omega)]
      exact T.K (ih4 h5)
    ·have h4:k=m.cons.length:=by simp[cE]at h4;omega
     have hfc:firstE (m.cons.map (conR (domsM m)))=0:=jm fun x hx=>by
      obtain⟨c,hc,rfl⟩:=List.mem_map.1 hx
      obtain⟨j,hj⟩:=List.getElem?_of_mem hc
      exact hbc j (by rw[h4];exact(List.getElem?_eq_some_iff.1 hj).1) c hj
     rw[hfc,if_neg (by simp)]at hR
     have hgs:=yb (domsM m) m.goal b5 hdl hdx
     rw[hR]at hgs
     refine .B ?_
     refine .C hgs ?_
     refine .B ?_
     exact r1
def smallD (d:aa)(most:Nat):Bool:=(List.range d.length).all fun k=>decide (prodD (d.take (k+1))≤most)
theorem xu {d:aa}{most:Nat}(h:smallD d most=true)(h1:1≤most):prodD d≤most:=by
 by_cases h0:d=[]
 ·subst h0;exact h1
 ·have hl:=List.length_pos_iff.2 h0
  have:=List.all_eq_true.1 h (d.length-1) (List.mem_range.2 (by omega))
  rw[show d.length-1+1=d.length by omega,List.take_length]at this
  simpa using this
theorem sF (d:aa)(most:Nat)(hm:1≤most∧most≤1048576)(fd:FewD d):Spec Tryz.prog 28 false [aH d,.int .i64 most] [.val (.bool (smallD d most))]:=by
 refine Spec.body Tryz.func28 rfl rfl rfl fun w0 Z0=> ?_
 generalize hR:smallD d most=R
 have hds:=fd.small
 refine .B ?_
 refine T.K (T.ind (fun i:Nat=>⟨[(0,.val false (aH d)),(1,.val false (.int .i64 most)),(5,.val true (.int .i64 (prodD (d.take i)))),(6,.val true (.int .i64 i))],[],0⟩) (fun i=>i≤d.length∧prodD (d.take i)≤most∧∀j,j<i→prodD (d.take (j+1))≤most) (fun i=>d.length-i) 0 ⟨Nat.zero_le _,hm.1,fun j hj=>absurd hj (Nat.not_lt_zero j)⟩ (fun _ _ h=>h) ?_)
 rintro i ⟨hi,hp,hb⟩ ih
 refine .B ?_
 refine T.cd rfl (fun h1=> ?_) (fun h1=> ?_)
 ·have h1:i<d.length:=by simpa using h1
  have hrow:(d.map cD)[((i:Nat):Int).toNat]? =some (cD d[i]):=by simp[h1]
  have hf:=fd.fine _ (List.getElem_mem h1)
  have hw:=fd.few _ (List.getElem_mem h1)
  have hvs:=r5 d[i] hf.domB.1 (by omega) hf.domB.2.2
  have htk:prodD (d.take (i+1))=prodD (d.take i)*(vals d[i]).length:=by rw[List.take_succ_eq_append_getElem h1,u5]
  have hno: ¬prodD (d.take (i+1))≤most→R=false:=fun h=>by
   rw[←hR];unfold smallD
   rw[List.all_eq_false]
   exact⟨i,List.mem_range.2 h1,by simpa using h⟩
  have ih1:=fun h:prodD (d.take (i+1))≤most=>ih (i+1) ⟨by omega,h,fun j hj=>by
   by_cases e:j=i
   ·rw[e];exact h
   ·exact hb j (by omega)⟩ (by omega)
  have hle:prodD (d.take i)*(vals d[i]).length≤1048576*4096:=Nat.mul_le_mul (by omega) hw
  rw[htk]at hno ih1
  generalize vals d[i]=l at*
  generalize d[i]=x at*
  generalize prodD (d.take i)=p at*
  have hmul:IntKind.i64.wrap ((p:Int)*((l.map cI).length:Nat))=((p*l.length:Nat):Int):=by
   rw[List.length_map,←Int.natCast_mul,ac (by omega) (by omega)]
  refine .B ?_
  refine .I (r:=cD x) hrow ?_
  refine .B ?_
  refine .C hvs ?_
  refine .B ?_
  rw[hmul]
  refine T.cd rfl (fun h2=> ?_) (fun h2=> ?_)
  ·have e:=hno (by omega)
   subst e
   refine .B ?_
   exact r1
  ·refine .B ?_
   rw[aj (l:=d.length) h1 (by omega)]
   exact T.K (ih1 (by omega))
 ·have h1:i=d.length:=by simp at h1;omega
  have:R=true:=by
   rw[←hR];unfold smallD
   rw[List.all_eq_true]
   intro j hj
   have:=hb j (by rw[h1];exact List.mem_range.1 hj)
   simpa using this
  subst this
  refine .B ?_
  exact r1
end Go.Proofs.YtopcjbahjjhdmaaGreat
