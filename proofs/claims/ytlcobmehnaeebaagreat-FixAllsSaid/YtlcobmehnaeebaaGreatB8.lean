/- The texts PuS, LiI, PuU, PuV, PuW, PuX, PuY, PuZ, PvA, FuJ, PvB, PvH, ShD, ShC, FvB, PvE, PvF, FvK, PvG, FvL of the workplace, joined. -/
import Derived.Test.YtlcobmehnaeebaaGreatB7
import Derived.Ground.SlsfProg
import Derived.Shelf.SlSortCmp.WholeK
import Derived.Test.YtlcobmehnaeebaaGreatProg
import Derived.Shelf.Slices.CompactI
import Derived.Shelf.SlicesE.DeleteFunc
import Derived.Shelf.SlSortCmp.NoneTotal
namespace Go.Proofs.YtlcobmehnaeebaaGreat
open Go Go.RowKit
set_option linter.unusedVariables false
set_option linter.unusedSimpArgs false
theorem suppK {n:Nat}{us:List Int}{P:List Int→Bool}(hn:us.Nodup)(h0: ∀u∈us,0≤u∧u.toNat<n)(hne:us≠[]):SuppS n us P fun d=>keptR d us P:=by
 refine⟨fun d out hd he=> ?_,fun d hd he g hg=> ?_,h0,hne⟩
 ·have h0d: ∀u∈us,0≤u∧u.toNat<d.length:=by rw[hd.len];exact h0
  have hat:=puts_at (d:=d) (P:=P) hn h0d
  have hl:=putsW_len d us (keepsW P us.length (growR (us.map (domAt d)) us.length)) us.length
  simp only[keptR,if_neg hd.some',toldO]at he
  generalize putsW d us (keepsW P us.length (growR (us.map (domAt d)) us.length)) us.length=o at*
  split at he
  ·cases he
  ·rename_i hno
   obtain rfl:=Option.some.inj he
   have hfx: ∀x∈o,Fine x∧(vals x).length≤4096:=fun x hx=>by
    obtain⟨i,hi⟩:=List.getElem?_of_mem hx
    obtain⟨h1,h2⟩:=hat i
    by_cases hiu:(i:Int)∈us
    ·obtain⟨y,hy,hok,hv⟩:=h2 hiu
     rw[hi]at hy
     obtain rfl:=Option.some.inj hy
     obtain⟨k1,k2,k3⟩:=hd.few.at (i:Int)
     have hsub: ∀v∈vals x,v∈vals (domAt d i):=fun v hm=>by
      obtain⟨f,h3,_,rfl⟩:=(hv v).1 hm
      exact h3 _ hiu
     have hlen:=up_length_le (vals_up hok) hsub
     exact⟨⟨hok,fun v hm=>k3 v (hsub v hm),by omega⟩,by omega⟩
    ·rw[h1 hiu]at hi
     exact⟨hd.few.fine x (List.mem_of_getElem? hi),hd.few.few x (List.mem_of_getElem? hi)⟩
   refine⟨⟨⟨by rw[hl];exact hd.few.small,fun x hx=>(hfx x hx).1,fun x hx=>(hfx x hx).2⟩,by rw[hl,hd.len],hno⟩,fun v hv x=> ?_,fun v hv0 hv=> ?_⟩
   ·have hv0:=h0 v hv
    have e:((v.toNat:Nat):Int)=v:=by omega
    obtain⟨y,hy,hok,hx⟩:=(hat v.toNat).2 (by rw[e];exact hv)
    rw[e]at hx
    have:domAt o v=y:=by
     unfold domAt
     rw[List.getD_eq_getElem?_getD,hy];rfl
    rw[this]
    exact hx x
   ·have e:((v.toNat:Nat):Int)=v:=by omega
    have:=(hat v.toNat).1 (by rw[e];exact hv)
    unfold domAt
    rw[List.getD_eq_getElem?_getD,List.getD_eq_getElem?_getD,this]
 ·have h0d: ∀u∈us,0≤u∧u.toNat<d.length:=by rw[hd.len];exact h0
  have hat:=puts_at (d:=d) (P:=P) hn h0d
  simp only[keptR,if_neg hd.some',toldO]at he
  generalize putsW d us (keepsW P us.length (growR (us.map (domAt d)) us.length)) us.length=o at*
  split at he
  ·rename_i hm
   obtain⟨i,hi⟩:=List.getElem?_of_mem hm
   obtain⟨h1,h2⟩:=hat i
   by_cases hiu:(i:Int)∈us
   ·obtain⟨y,hy,hok,hx⟩:=h2 hiu
    rw[hi]at hy
    obtain rfl:=Option.some.inj hy
    cases hp:P (us.map g)with
    |false=>rfl
    |true=>
     have:=(hx (g i)).2 ⟨g,hg,hp,rfl⟩
     cases this
   ·rw[h1 hiu]at hi
    exact absurd (List.mem_of_getElem? hi) hd.some'
  ·cases he
theorem iter_det {α β:Type}{f:α→β ⊕ α}: ∀{n m:Nat} {x:α} {r s:β},iter f n x=some r→iter f m x=some s→r=s
 |0,_,_,_,_,h,_=>by cases h
 |_+1,0,_,_,_,_,h=>by cases h
 |n+1,m+1,x,r,s,h1,h2=>by
  simp only[iter]at h1 h2
  cases h:f x with
  |inl b=>rw[h]at h1 h2;simp only[Option.some.injEq]at h1 h2;rw[←h1,h2]
  |inr y=>rw[h]at h1 h2;exact iter_det h1 h2
theorem lin_det {d:Doms}{c:Con}{R S:Option Doms}{N M:Nat}(h1:LinAns d c R N)(h2:LinAns d c S M):R=S:=by
 unfold LinAns at h1 h2
 split at h1
 ·rename_i h;rw[if_pos h]at h2;rw[h1,h2]
 ·rename_i h
  rw[if_neg h]at h2
  split at h1
  ·rename_i h3;rw[if_pos h3]at h2;rw[h1,h2]
  ·rename_i h3;rw[if_neg h3]at h2;exact iter_det h1 h2
theorem iter_keep {α β:Type}{f:α→β ⊕ α}{I:α→Prop}{P:β→Prop}(h1: ∀x y,I x→f x= .inr y→I y)(h2: ∀x r,I x→f x= .inl r→P r): ∀{n:Nat} {x:α} {r:β},I x→iter f n x=some r→P r
 |0,_,_,_,h=>by cases h
 |n+1,x,r,hi,h=>by
  simp only[iter]at h
  cases hf:f x with
  |inl b=>rw[hf]at h;simp only[Option.some.injEq]at h;exact h▸h2 x b hi hf
  |inr y=>rw[hf]at h;exact iter_keep h1 h2 (h1 x y hi hf) h
theorem sub_set {d:Doms}{i:Nat}{x:List (Int×Int)}(h: ∀y,d[i]? =some y→∀v∈vals x,v∈vals y):Sub (d.set i x) d:=by
 refine⟨by simp,fun j y z hy hz v hv=> ?_⟩
 rw[List.getElem?_set]at hy
 split at hy
 ·rename_i e
  subst e
  split at hy
  ·cases hy;exact h z hz v hv
  ·cases hy
 ·rw[hz]at hy;cases hy;exact hv
theorem lin_sub {d:Doms}{c:Con}{out:Doms}{N:Nat}(h:SumOk d c)(hR:LinAns d c (some out) N):Sub out d:=by
 unfold LinAns at hR
 split at hR
 ·cases hR
 ·rename_i hne
  have hw:=h.whole hne
  split at hR
  ·rename_i h2
   rw[other_same hw h.pos]at hR
   split at hR
   ·cases hR
   ·cases hR
    have hin:=rotherGo_in (termsOf d c.vars c.coefs) 0 0 0 0 c.vars.length h.pos (by have:=h.fine.len;simp[termsOf];omega) (Nat.le_refl _)
    unfold rotherW
    simp only
    split
    ·exact Sub.refl d
    ·split
     ·split
      ·exact sub_set fun y _ v hv=>by simp[vals]at hv
      ·exact Sub.refl d
     ·refine sub_set fun y hy v hv=> ?_
      have hvv:=h.fine.vin _ (varAt_mem hin.1)
      rw[domAt_some hvv.2]at hy
      obtain rfl:=Option.some.inj hy
      have hf:=h.fine.dom _ (domAt_mem hvv.2)
      rw[vals_pack (filter_up (vals_up hf.ok))]at hv
      exact(List.mem_filter.1 hv).1
  ·refine iter_keep (f:=stepL c) (I:=fun x=>WholeC c x∧Sub x d) (P:=fun r=> ∀o,r=some o→Sub o d) ?_ ?_ ⟨hw,Sub.refl d⟩ hR out rfl
   ·rintro x y ⟨hx,hs⟩ hy
    rw[stepL_eq hx]at hy
    obtain⟨f1,s1⟩:=MO_ok hx
    split at hy
    ·cases hy
    ·rename_i h1
     have hw1:WholeC c (M1 c x):=Whole.most hx h1
     obtain⟨f2,s2⟩:=MO_ok hw1.back
     split at hy
     ·cases hy
     ·split at hy
      ·cases hy
      ·rename_i h3
       split at hy
       ·cases hy
       ·obtain rfl:=Sum.inr.inj hy
        exact⟨hw1.unback (Whole.most hw1.back h3),Sub.trans s2 (Sub.trans s1 hs)⟩
   ·rintro x r ⟨hx,hs⟩ hy o rfl
    rw[stepL_eq hx]at hy
    obtain⟨f1,s1⟩:=MO_ok hx
    split at hy
    ·cases hy
    ·rename_i h1
     have hw1:WholeC c (M1 c x):=Whole.most hx h1
     obtain⟨f2,s2⟩:=MO_ok hw1.back
     split at hy
     ·obtain rfl:=Option.some.inj (Sum.inl.inj hy)
      exact Sub.trans s1 hs
     ·split at hy
      ·cases hy
      ·split at hy
       ·obtain rfl:=Option.some.inj (Sum.inl.inj hy)
        exact Sub.trans s2 (Sub.trans s1 hs)
       ·cases hy
theorem supp_through {d:Doms}(hf: ∀x∈d,Fine x)(hne: []∉d){i:Nat}{x:List (Int×Int)}{v:Int}(hx:d[i]? =some x)(hv:v∈vals x): ∃a,Supp a d∧a[i]? =some v:=by
 have hi:=(List.getElem?_eq_some_iff.1 hx).1
 refine⟨(d.map fun y=>(vals y).headD 0).set i v,⟨by simp,fun j y w hy hw=> ?_⟩,by simp[hi]⟩
 rw[List.getElem?_set]at hw
 split at hw
 ·rename_i e
  subst e
  rw[hx]at hy
  cases hy
  split at hw
  ·cases hw;exact hv
  ·cases hw
 ·rw[List.getElem?_map,hy]at hw
  simp only[Option.map_some,Option.some.injEq]at hw
  subst hw
  have hm:=List.mem_of_getElem? hy
  cases h2:vals y with
  |nil=>exact absurd ((vals_ne (hf y hm).ok).1 h2▸hm) hne
  |cons z l=>simp
theorem lin_stay {d:Doms}{c:Con}{R:Option Doms}{N:Nat}(h:SumOk d c)(hne: []∉d)(hR:LinAns d c R N)(hfin: ∀out,R=some out→out.length=d.length∧[]∉out∧∀x∈out,Fine x)(hso:soW (endsW d c.vars c.coefs) c=true):R=some d:=by
 have hb:=h.big
 have ha:=absK_pos c.rhs
 have key: ∀a,Supp a d→∃out,R=some out∧Supp a out:=fun a hs=>lin_sound h hs (so_holds h.fine (by omega) h.op hs hso) hR
 cases R with
 |none=>
  exfalso
  cases hd:d with
  |nil=>
   have:=h.fine.vin
   have hp:=h.pos
   obtain⟨v,hv⟩:=List.exists_mem_of_length_pos hp
   have:=(this v hv).2
   rw[hd]at this
   simp at this
  |cons x l=>
   have hxm:x∈d:=by rw[hd];exact .head _
   cases h2:vals x with
   |nil=>exact hne ((vals_ne (h.fine.dom x hxm).ok).1 h2▸hxm)
   |cons z m=>
    obtain⟨a,hs,_⟩:=supp_through h.fine.dom hne (i:=0) (x:=x) (v:=z) (by rw[hd];rfl) (by rw[h2];exact .head _)
    obtain⟨out,ho,_⟩:=key a hs
    cases ho
 |some out=>
  obtain⟨h1,h2,h3⟩:=hfin out rfl
  have hsub:=lin_sub h hR
  congr 1
  refine Sub.antisymm hsub ⟨h1.symm,fun i x y hx hy v hv=> ?_⟩ h3 h.fine.dom
  obtain⟨a,hs,hai⟩:=supp_through h.fine.dom hne hx hv
  obtain⟨out',ho,hs2⟩:=key a hs
  cases ho
  exact hs2.2 i y v hy hai
theorem ends_whole {d:Doms}{vars coefs:List Int}{rhs:Int}(h:Whole d vars coefs rhs):endsW d vars coefs=(lowS (termsOf d vars coefs),highS (termsOf d vars coefs),true):=by
 have hb:=h.big
 have ha:=absK_pos rhs
 have hwt:=terms_weight (d:=d) h.fine.len
 have:=endsGo_ok 0 0 (terms_ok h.fine) (terms_ne h) (by omega) (by omega) (by omega) (by omega)
 unfold endsW
 rw[this]
 simp
theorem low_turned {d:Doms}{vars coefs:List Int}(h: ∀k∈coefs,CoefOk k):lowS (termsOf d vars (turnedW coefs))= -highS (termsOf d vars coefs):=by
 rw[lowS_zip,highS_zip]
 unfold turnedW
 induction vars generalizing coefs with
 |nil=>simp
 |cons v vars ih=>
  cases coefs with
  |nil=>simp
  |cons k coefs=>
   have hk:=h k (.head _)
   have e:=(turned_ok hk).1
   have ih:=ih fun k hk=>h k (.tail _ hk)
   simp only[List.map_cons,List.zip_cons_cons,List.sum_cons,e]
   have e2:lowE (domAt d v) (-k)= -highE (domAt d v) k:=by
    have hk0:=hk.1
    unfold lowE highE
    by_cases h0:0<k
    ·rw[if_neg (by omega),if_pos h0,Int.neg_mul]
    ·rw[if_pos (by omega),if_neg h0,Int.neg_mul]
   rw[e2,ih]
   omega
theorem rotherGo_none: ∀(ts:List (List (Int×Int)×Int)) (i m a:Nat) (s:Int),(∀t∈ts,¬1<(vals t.1).length)→(rotherGo i ts m s a).1=m
 | [],i,m,a,s,_=>by simp[rotherGo]
 |t::ts,i,m,a,s,h=>by
  rw[rotherGo,if_neg (h t (.head _))]
  exact rotherGo_none ts _ _ _ _ fun t ht=>h t (.tail _ ht)
theorem supp_some {d:Doms}(hf: ∀x∈d,Fine x)(hne: []∉d)(hl:0<d.length): ∃a,Supp a d:=by
 cases h2:vals d[0]with
 |nil=>exact absurd ((vals_ne (hf d[0] (List.getElem_mem hl)).ok).1 h2▸List.getElem_mem hl) hne
 |cons z m=>
  obtain⟨a,ha,_⟩:=supp_through hf hne (i:=0) (x:=d[0]) (v:=z) (List.getElem?_eq_getElem hl) (by rw[h2];exact .head _)
  exact⟨a,ha⟩
theorem not_not {c:Con}(hck: ∀k∈c.coefs,CoefOk k)(hop:0≤c.op∧c.op≤2)(hr:absK c.rhs≤4611686018427388928):notW (notW c)=c:=by
 obtain⟨kind,vars,coefs,op,rhs,rows,b⟩:=c
 simp only at hck hop hr
 have har:absK rhs=max rhs (-rhs):=rfl
 have:op=0∨op=1∨op=2:=by omega
 rcases this with rfl|rfl|rfl
 ·have e1:wr (0-rhs)= -rhs:=by rw[wr,wrap_id (by omega) (by omega)];omega
  have e2:wr (wr (0-rhs)-1)= -rhs-1:=by rw[e1,wr,wrap_id (by omega) (by omega)]
  have e3:wr (wr (0-(-rhs-1))-1)=rhs:=by
   rw[show wr (0-(-rhs-1))=rhs+1 by rw[wr,wrap_id (by omega) (by omega)];omega,wr,wrap_id (by omega) (by omega)]
   omega
  have e4:turnedW (turnedW coefs)=coefs:=by
   unfold turnedW
   rw[List.map_map]
   refine(List.map_congr_left fun k hk=> ?_).trans (List.map_id _)
   obtain⟨h1,h2⟩:=turned_ok (hck k hk)
   have h3:=(turned_ok h2).1
   simp only[Function.comp]
   rw[h3,h1]
   simp
  simp only[notW,if_true,e2,e3,e4]
 ·simp[notW]
 ·simp[notW]
theorem lowE_at {x:List (Int×Int)}(h:DomOk x)(hne:x≠[])(k:Int): ∃v∈vals x,lowE x k=k*v:=by
 unfold lowE
 by_cases hk:0<k
 ·rw[if_pos hk];exact⟨_,least_mem h hne,rfl⟩
 ·rw[if_neg hk];exact⟨_,last_mem h hne,rfl⟩
theorem lowE_mono {x y:List (Int×Int)}(hx:DomOk x)(hy:DomOk y)(hne:x≠[])(hs: ∀v∈vals x,v∈vals y)(k:Int):lowE y k≤lowE x k:=by
 obtain⟨v,hv,e⟩:=lowE_at hx hne k
 rw[e]
 exact(lowE_le hy (hs v hv)).1
structure SumC (n:Nat)(vars coefs:List Int)(rhs:Int):Prop where
 vl:vars.length=coefs.length
 vin: ∀v∈vars,0≤v∧v.toNat<n
 ck: ∀k∈coefs,CoefOk k
 nod:vars.Nodup
 big:weightK coefs+absK rhs≤4611686018427388928
 few:vars.length*24≤140737488355328
theorem SumC.whole {n:Nat}{vars coefs:List Int}{rhs:Int}(h:SumC n vars coefs rhs){d:Doms}(hd:GoodD n d):Whole d vars coefs rhs:=
 ⟨⟨h.vl,by have:=h.few;omega,fun v hv=>by rw[hd.len];exact h.vin v hv,h.ck,hd.few.fine,hd.few.small⟩,h.nod,hd.some',h.big⟩
theorem MO_dom {d:Doms}{vars coefs:List Int}{rhs:Int}(h:Whole d vars coefs rhs){p:Int×Int}(hp:p∈vars.zip coefs):domAt (MO d vars coefs rhs) p.1=cutAt d (lowS (termsOf d vars coefs)) rhs p:=by
 obtain⟨ha,hl⟩:=cuts_apart h
 have hm:(p.1,cutAt d (lowS (termsOf d vars coefs)) rhs p)∈cuts d vars coefs rhs:=List.mem_map.2 ⟨p,hp,rfl⟩
 have e:=setAll_at ha hl _ hm
 unfold domAt
 rw[List.getD_eq_getElem?_getD,show MO d vars coefs rhs=setAll (cuts d vars coefs rhs) d from rfl,e];rfl
theorem MO_off {d:Doms}{vars coefs:List Int}{rhs:Int}(h:Whole d vars coefs rhs){v:Int}(h0:0≤v)(hv:v∉vars):domAt (MO d vars coefs rhs) v=domAt d v:=by
 have e:(MO d vars coefs rhs)[v.toNat]? =d[v.toNat]? :=setAll_other _ _ _ fun p hp e=>by
  obtain⟨q,hq,rfl⟩:=List.mem_map.1 hp
  have hq1:=(List.of_mem_zip hq).1
  have:=(h.fine.vin _ hq1).1
  have e:q.1.toNat=v.toNat:=e
  exact hv ((show q.1=v by omega)▸hq1)
 unfold domAt
 rw[List.getD_eq_getElem?_getD,List.getD_eq_getElem?_getD,e]
theorem zip_var {vars coefs:List Int}(hl:vars.length=coefs.length){v:Int}(hv:v∈vars): ∃p∈vars.zip coefs,p.1=v:=by
 obtain⟨i,hi,rfl⟩:=List.getElem_of_mem hv
 exact⟨(vars[i],coefs[i]'(by omega)),List.mem_iff_getElem.2 ⟨i,by simp;omega,by simp⟩,rfl⟩
theorem MO_mono {n:Nat}{a b:Doms}{vars coefs:List Int}{rhs:Int}(hc:SumC n vars coefs rhs)(ga:GoodD n a)(gb:GoodD n b)(h:leD a b):leD (MO a vars coefs rhs) (MO b vars coefs rhs):=by
 have wa:=hc.whole ga
 have wb:=hc.whole gb
 have hlow:=sum_le_sum (f:=fun p=>lowE (domAt b p.1) p.2) (g:=fun p=>lowE (domAt a p.1) p.2) (l:=vars.zip coefs) fun p hp=>by
  have hv:=hc.vin _ (List.of_mem_zip hp).1
  have hm:domAt a p.1∈a:=domAt_mem (by rw[ga.len];exact hv.2)
  exact lowE_mono (ga.few.fine _ hm).ok (gb.few.fine _ (domAt_mem (by rw[gb.len];exact hv.2))).ok (fun e=>ga.some' (e▸hm)) (fun x hx=>h.2 p.1 x hv.1 hx) p.2
 rw[←lowS_zip,←lowS_zip]at hlow
 refine⟨by rw[(MO_ok wa).2.1,(MO_ok wb).2.1,ga.len,gb.len],fun v x h0 hx=> ?_⟩
 by_cases hv:v∈vars
 ·obtain⟨p,hp,rfl⟩:=zip_var hc.vl hv
  rw[MO_dom wa hp]at hx
  rw[MO_dom wb hp]
  obtain⟨h1,h2⟩:=((cutAt_ok wa hp _).2 x).1 hx
  refine((cutAt_ok wb hp _).2 x).2 ⟨h.2 _ x h0 h1,?_⟩
  have:=hlow.2 p hp
  omega
 ·rw[MO_off wa h0 hv]at hx
  rw[MO_off wb h0 hv]
  exact h.2 v x h0 hx
def stepM (vars coefs:List Int)(rhs:Int)(d:Doms):Option Doms:=if []∈MO d vars coefs rhs then none else some (MO d vars coefs rhs)
theorem MO_good {n:Nat}{d:Doms}{vars coefs:List Int}{rhs:Int}(hc:SumC n vars coefs rhs)(hd:GoodD n d)(hne: []∉MO d vars coefs rhs):GoodD n (MO d vars coefs rhs)∧leD (MO d vars coefs rhs) d:=by
 obtain⟨h1,h2⟩:=MO_ok (hc.whole hd)
 have hle:leD (MO d vars coefs rhs) d:=by
  refine⟨h2.1,fun v x h0 hx=> ?_⟩
  by_cases hl:v.toNat<d.length
  ·have hl2:v.toNat<(MO d vars coefs rhs).length:=by rw[h2.1];exact hl
   exact h2.2 v.toNat _ _ (domAt_some hl2) (domAt_some hl) x hx
  ·unfold domAt at hx
   rw[List.getD_eq_getElem?_getD,List.getElem?_eq_none (by rw[h2.1];omega)]at hx
   cases hx
 refine⟨⟨⟨by rw[h2.1];exact hd.few.small,h1,fun x hx=> ?_⟩,by rw[h2.1,hd.len],hne⟩,hle⟩
 obtain⟨j,hj⟩:=List.getElem?_of_mem hx
 have hjl:=(List.getElem?_eq_some_iff.1 hj).1
 have hjd:j<d.length:=by rw[←h2.1];exact hjl
 have hsub: ∀v∈vals x,v∈vals d[j]:=fun v hv=>h2.2 j x d[j] hj (List.getElem?_eq_getElem hjd) v hv
 have:=up_length_le (vals_up (h1 x hx).ok) hsub
 have:=hd.few.few _ (List.getElem_mem hjd)
 omega
theorem stepM_takes {n:Nat}{vars coefs:List Int}{rhs:Int}(hc:SumC n vars coefs rhs):Takes leD (GoodD n) (stepM vars coefs rhs):=by
 refine⟨fun a a' ga he=> ?_,fun a a' b ga gb hle he=> ?_⟩
 ·unfold stepM at he
  split at he
  ·cases he
  ·rename_i hne
   obtain rfl:=Option.some.inj he
   exact MO_good hc ga hne
 ·unfold stepM at he⊢
  split at he
  ·cases he
  ·rename_i hne
   obtain rfl:=Option.some.inj he
   have hm:=MO_mono hc ga gb hle
   obtain⟨g1,_⟩:=MO_good hc ga hne
   rw[if_neg]
   ·exact⟨_,rfl,hm⟩
   ·intro hem
    obtain⟨j,hj⟩:=List.getElem?_of_mem hem
    have hjl:=(List.getElem?_eq_some_iff.1 hj).1
    have hjn:j<n:=by rw[(MO_ok (hc.whole gb)).2.1,gb.len]at hjl;exact hjl
    obtain⟨x,hx⟩:=g1.ne (v:=(j:Int)) (by simpa using hjn)
    have:=hm.2 j x (by omega) hx
    unfold domAt at this
    rw[List.getD_eq_getElem?_getD,Int.toNat_natCast,hj]at this
    cases this
def cutsF (c:Con)(b:Bool)(d:Doms):Option Doms:=if b=true then stepM c.vars c.coefs c.rhs d else stepM c.vars (turnedW c.coefs) (wr (0-c.rhs)) d
theorem cutsF_takes {n:Nat}{c:Con}(h1:SumC n c.vars c.coefs c.rhs)(h2:SumC n c.vars (turnedW c.coefs) (wr (0-c.rhs)))(b:Bool):Takes leD (GoodD n) (cutsF c b):=by
 cases b with
 |true=>exact stepM_takes h1
 |false=>exact stepM_takes h2
theorem lin1_ends {n:Nat}{c:Con}(h1:SumC n c.vars c.coefs c.rhs)(h2:SumC n c.vars (turnedW c.coefs) (wr (0-c.rhs)))(hop:c.op=1)(d0:Doms): ∀(N:Nat) (d:Doms) (R:Option Doms),Come leD (GoodD n) (cutsF c) [true,false] d0 d→iter (stepL c) N d=some R→Ends leD (GoodD n) (cutsF c) [true,false] d0 R:=by
 intro N
 induction N using Nat.strongRecOn with
 |_ N ih=>
  intro d R hd hR
  have hw:WholeC c d:=h1.whole hd.fine
  have hst:=stepL_eq hw
  have t1:=cutsF_takes h1 h2 true
  have t2:=cutsF_takes h1 h2 false
  by_cases e1: []∈M1 c d
  ·rw[if_pos e1]at hst
   obtain rfl:=iter_inl hR hst
   exact hd.none (c:=true) (by simp) t1 (if_pos e1)
  ·rw[if_neg e1,if_neg (by omega)]at hst
   have f1:cutsF c true d=some (M1 c d):=if_neg e1
   have hd1:=hd.step (orderD n) (c:=true) (by simp) t1 f1
   by_cases e2: []∈M2 c (M1 c d)
   ·rw[if_pos e2]at hst
    obtain rfl:=iter_inl hR hst
    exact hd1.none (c:=false) (by simp) t2 (if_pos e2)
   ·rw[if_neg e2]at hst
    have f2:cutsF c false (M1 c d)=some (M2 c (M1 c d)):=if_neg e2
    have hd2:=hd1.step (orderD n) (c:=false) (by simp) t2 f2
    by_cases e3:M1 c d=d∧M2 c (M1 c d)=M1 c d
    ·rw[if_pos e3]at hst
     obtain rfl:=iter_inl hR hst
     refine⟨hd2,fun b hb=> ?_⟩
     have e:M2 c (M1 c d)=d:=e3.2.trans e3.1
     rw[e]
     cases b with
     |true=>rw[f1,e3.1]
     |false=>rw[e3.1]at f2;rw[f2,←e3.1];rw[e3.1]at e;rw[e3.1,e]
    ·rw[if_neg e3]at hst
     obtain⟨m,hm,hR2⟩:=iter_inr hR hst
     exact ih m hm _ R hd2 hR2
theorem lin0_eq {n:Nat}{c:Con}(h1:SumC n c.vars c.coefs c.rhs)(hop:c.op=0){d:Doms}(hd:GoodD n d){N:Nat}{R:Option Doms}(hR:iter (stepL c) N d=some R):R=cutsF c true d:=by
 have hst:=stepL_eq (h1.whole hd:WholeC c d)
 by_cases e1: []∈M1 c d
 ·rw[if_pos e1]at hst
  obtain rfl:=iter_inl hR hst
  exact(if_pos e1).symm
 ·rw[if_neg e1,if_pos hop]at hst
  obtain rfl:=iter_inl hR hst
  exact(if_neg e1).symm
structure StepOK (n:Nat)(us:List Int)(P:(Int→Int)→Prop)(f:Doms→Option Doms):Prop where
 takes:Takes leD (GoodD n) f
 stays: ∀a b,GoodD n a→GoodD n b→f a=some a→(∀u∈us,domAt a u=domAt b u)→f b=some b
 off: ∀a out,GoodD n a→f a=some out→∀v,0≤v→v∉us→domAt out v=domAt a v
 point: ∀e,GoodD n e→∀g:Int→Int,(∀u∈us,vals (domAt e u)=[g u])→(f e=some e↔P g)
 in': ∀u∈us,0≤u∧u.toNat<n
theorem SuppS.step {n:Nat}{us:List Int}{P:List Int→Bool}{f:Doms→Option Doms}(h:SuppS n us P f):StepOK n us (fun g=>P (us.map g)=true) f:=by
 refine⟨h.takes,fun a b ga gb ha hab=>h.stays ga gb ha hab,fun a out ga he=>(h.ok a out ga he).2.2,fun e ge g he=> ?_,h.in'⟩
 rw[h.point ge g he]
 by_cases hp:P (us.map g)=true
 ·simp[hp]
 ·simp[hp]
theorem StepOK.iff {n:Nat}{us:List Int}{P Q:(Int→Int)→Prop}{f:Doms→Option Doms}(h:StepOK n us P f)(hq: ∀g,P g↔Q g):StepOK n us Q f:=
 ⟨h.takes,h.stays,h.off,fun e ge g he=>(h.point e ge g he).trans (hq g),h.in'⟩
theorem StepOK.wide {n:Nat}{us vs:List Int}{P:(Int→Int)→Prop}{f:Doms→Option Doms}(h:StepOK n us P f)(hs: ∀u∈us,u∈vs)(hv: ∀u∈vs,0≤u∧u.toNat<n):StepOK n vs P f:=
 ⟨h.takes,fun a b ga gb ha hab=>h.stays a b ga gb ha fun u hu=>hab u (hs u hu),fun a out ga he v h0 hv=>h.off a out ga he v h0 fun hm=>hv (hs v hm),fun e ge g he=>h.point e ge g fun u hu=>he u (hs u hu),hv⟩
theorem StepOK.congr {n:Nat}{us:List Int}{P:(Int→Int)→Prop}{f f':Doms→Option Doms}(h:StepOK n us P f)(he: ∀d,GoodD n d→f' d=f d):StepOK n us P f':=by
 refine⟨⟨fun a a' ga e=>h.takes.less a a' ga (by rw[←he a ga];exact e),fun a a' b ga gb hle e=> ?_⟩,fun a b ga gb ha hab=> ?_,fun a out ga e=>h.off a out ga (by rw[←he a ga];exact e),fun e ge g hg=>by rw[he e ge];exact h.point e ge g hg,h.in'⟩
 ·rw[he a ga]at e;rw[he b gb];exact h.takes.mono a a' b ga gb hle e
 ·rw[he a ga]at ha;rw[he b gb];exact h.stays a b ga gb ha hab
def mixD (us:List Int)(a b:Doms):Doms:=(List.range a.length).map fun j:Nat=>if(j:Int)∈us then domAt a (j:Int)else domAt b (j:Int)
theorem mix_at {us:List Int}{a b:Doms}{v:Int}(h0:0≤v)(hl:v.toNat<a.length):domAt (mixD us a b) v=if v∈us then domAt a v else domAt b v:=by
 have e:((v.toNat:Nat):Int)=v:=by omega
 unfold domAt mixD
 rw[List.getD_eq_getElem?_getD,List.getElem?_map,List.getElem?_range hl]
 simp only[Option.map_some,Option.getD_some,e,domAt]
theorem dom_none {a:Doms}{v:Int}(hl:a.length≤v.toNat):domAt a v=[]:=by
 unfold domAt
 rw[List.getD_eq_getElem?_getD,List.getElem?_eq_none hl];rfl
theorem mix_good {n:Nat}{us:List Int}{a b:Doms}(ga:GoodD n a)(gb:GoodD n b):GoodD n (mixD us a b):=by
 have hl:(mixD us a b).length=a.length:=by simp[mixD]
 have hm: ∀x∈mixD us a b,x∈a∨x∈b:=by
  intro x hx
  obtain⟨j,hj,rfl⟩:=List.mem_map.1 hx
  have hj:=List.mem_range.1 hj
  split
  ·exact .inl (domAt_mem (by simpa using hj))
  ·exact .inr (domAt_mem (by rw[gb.len,←ga.len];simpa using hj))
 refine⟨⟨by rw[hl];exact ga.few.small,fun x hx=> ?_,fun x hx=> ?_⟩,by rw[hl,ga.len],fun hx=> ?_⟩
 ·exact(hm x hx).elim (ga.few.fine x) (gb.few.fine x)
 ·exact(hm x hx).elim (ga.few.few x) (gb.few.few x)
 ·exact(hm _ hx).elim ga.some' gb.some'
theorem Ends.step {γ:Type}{n:Nat}{us:List Int}{l:List γ}{f:γ→Doms→Option Doms}{F:Doms→Option Doms}{P:γ→(Int→Int)→Prop}(h: ∀d,GoodD n d→Ends leD (GoodD n) f l d (F d))(hs: ∀c∈l,StepOK n us (P c) (f c))(hin: ∀u∈us,0≤u∧u.toNat<n):StepOK n us (fun g=> ∀c∈l,P c g) F:=by
 have O:=orderD n
 have loc: ∀a b,GoodD n a→GoodD n b→Stays f l a→(∀u∈us,domAt a u=domAt b u)→Stays f l b:=fun a b ga gb ha hab c hc=>(hs c hc).stays a b ga gb (ha c hc) hab
 refine⟨Ends.takes O h,fun a b ga gb ha hab=>(Ends.fix O h gb).2 (loc a b ga gb ((Ends.fix O h ga).1 ha) hab),fun a out ga he v h0 hv=> ?_,fun e ge g he=> ?_,hin⟩
 ·have hE:=h a ga
  rw[he]at hE
  obtain⟨hc,hst⟩:=hE
  by_cases hl:v.toNat<n
  ·have gm:=mix_good (us:=us) hc.fine ga
   have hlo:out.length=a.length:=hc.less.1
   have hat: ∀u:Int,0≤u→domAt (mixD us out a) u=if u∈us then domAt out u else domAt a u:=fun u hu0=>by
    by_cases hul:u.toNat<out.length
    ·exact mix_at hu0 hul
    ·rw[dom_none (by rw[gm.len];rw[hc.fine.len]at hul;omega),dom_none (by omega),dom_none (by omega),ite_self]
   have hst2:Stays f l (mixD us out a):=by
    refine loc out _ hc.fine gm hst fun u hu=> ?_
    rw[hat u (hin u hu).1,if_pos hu]
   have hle:leD (mixD us out a) a:=⟨by rw[gm.len,ga.len],fun u x hu0 hx=>by
    rw[hat u hu0]at hx
    split at hx
    ·exact hc.less.2 u x hu0 hx
    ·exact hx⟩
   have hk:=hc.keep _ gm hle hst2
   have f1:=(hc.fine.few.fine _ (domAt_mem (by rw[hc.fine.len];exact hl))).ok
   have f2:=(ga.few.fine _ (domAt_mem (by rw[ga.len];exact hl))).ok
   refine dom_ext f1 f2 (up_ext (vals_up f1) (vals_up f2) fun x=>⟨hc.less.2 v x h0,fun hx=>hk.2 v x h0 ?_⟩)
   rw[hat v h0,if_neg hv]
   exact hx
  ·rw[dom_none (by rw[hc.fine.len];omega),dom_none (by rw[ga.len];omega)]
 ·rw[Ends.fix O h ge]
  exact⟨fun hh c hc=>((hs c hc).point e ge g he).1 (hh c hc),fun hh c hc=>((hs c hc).point e ge g he).2 (hh c hc)⟩
def sumG (vars coefs:List Int)(g:Int→Int):Int:=((vars.zip coefs).map fun p=>p.2*g p.1).sum
def sumL (coefs l:List Int):Int:=((l.zip coefs).map fun p=>p.2*p.1).sum
theorem sumL_map: ∀(vars coefs:List Int) (g:Int→Int),sumL coefs (vars.map g)=sumG vars coefs g
 | [],_,_=>by simp[sumL,sumG]
 |_::_,[],_=>by simp[sumL,sumG]
 |v::vars,k::coefs,g=>by
  have:=sumL_map vars coefs g
  simp only[sumL,sumG,List.map_cons,List.zip_cons_cons,List.sum_cons]at this⊢
  rw[this]
theorem sum_upd {α:Type}{f f':α→Int}{q:α}: ∀{l:List α},l.Nodup→q∈l→(∀p∈l,p≠q→f' p=f p)→(l.map f').sum=(l.map f).sum-f q+f' q
 |p::l,hn,hq,h=>by
  have h1:=List.nodup_cons.1 hn
  simp only[List.map_cons,List.sum_cons]
  rcases List.mem_cons.1 hq with rfl|hq
  ·have:l.map f'=l.map f:=List.map_congr_left fun r hr=>h r (.tail _ hr) fun e=>h1.1 (e▸hr)
   rw[this];omega
  ·have:=sum_upd (f:=f) (f':=f') h1.2 hq fun r hr=>h r (.tail _ hr)
   have:=h p (.head _) fun e=>h1.1 (e▸hq)
   omega
theorem zip_nodup: ∀{vars coefs:List Int},vars.Nodup→(vars.zip coefs).Nodup
 | [],_,_=>by simp
 |_::_,[],_=>by simp
 |v::vars,k::coefs,h=>by
  have h1:=List.nodup_cons.1 h
  rw[List.zip_cons_cons]
  exact List.nodup_cons.2 ⟨fun hm=>h1.1 (List.of_mem_zip hm).1,zip_nodup h1.2⟩
theorem zip_uniq: ∀{vars coefs:List Int},vars.Nodup→∀{p q:Int×Int},p∈vars.zip coefs→q∈vars.zip coefs→p.1=q.1→p=q
 | [],_,_,p,q,h,_,_=>by simp at h
 |_::_,[],_,p,q,h,_,_=>by simp at h
 |v::vars,k::coefs,hn,p,q,hp,hq,e=>by
  have h1:=List.nodup_cons.1 hn
  rw[List.zip_cons_cons]at hp hq
  rcases List.mem_cons.1 hp with rfl|hp
  ·rcases List.mem_cons.1 hq with rfl|hq
   ·rfl
   ·exact absurd ((show v=q.1 from e)▸(List.of_mem_zip hq).1) h1.1
  ·rcases List.mem_cons.1 hq with rfl|hq
   ·exact absurd ((show p.1=v from e)▸(List.of_mem_zip hp).1) h1.1
   ·exact zip_uniq h1.2 hp hq e
theorem pick_of {vars coefs:List Int}(hn:vars.Nodup)(h:Int×Int→Int): ∃g:Int→Int,∀p∈vars.zip coefs,g p.1=h p:=by
 refine⟨fun u=>if hu: ∃p∈vars.zip coefs,p.1=u then h hu.choose else 0,fun p hp=> ?_⟩
 have hu: ∃q∈vars.zip coefs,q.1=p.1:=⟨p,hp,rfl⟩
 simp only[dif_pos hu]
 rw[zip_uniq hn hu.choose_spec.1 hp hu.choose_spec.2]
theorem suppM {n:Nat}{vars coefs:List Int}{rhs:Int}(hc:SumC n vars coefs rhs)(hne:vars≠[]):SuppS n vars (fun l=>decide (sumL coefs l≤rhs)) (stepM vars coefs rhs):=by
 have low: ∀d,GoodD n d→∀g:Int→Int,(∀u∈vars,g u∈vals (domAt d u))→∀p∈vars.zip coefs,p.2*g p.1-lowE (domAt d p.1) p.2≤sumG vars coefs g-lowS (termsOf d vars coefs):=fun d gd g hg p hp=>by
  rw[lowS_zip]
  refine(sum_le_sum (f:=fun p:Int×Int=>lowE (domAt d p.1) p.2) (g:=fun p=>p.2*g p.1) (l:=vars.zip coefs) fun q hq=> ?_).2 p hp
  have hv:=(List.of_mem_zip hq).1
  exact(lowE_le (gd.few.fine _ (domAt_mem (by rw[gd.len];exact(hc.vin _ hv).2))).ok (hg _ hv)).1
 have put: ∀d,GoodD n d→∀q∈vars.zip coefs,∀x∈vals (domAt d q.1),∃g:Int→Int,(∀u∈vars,g u∈vals (domAt d u))∧g q.1=x∧sumG vars coefs g=lowS (termsOf d vars coefs)-lowE (domAt d q.1) q.2+q.2*x:=fun d gd q hq x hx=>by
  have hex: ∀p:Int×Int,∃y,p∈vars.zip coefs→y∈vals (domAt d p.1)∧lowE (domAt d p.1) p.2=p.2*y:=fun p=>by
   by_cases hp:p∈vars.zip coefs
   ·have hm:domAt d p.1∈d:=domAt_mem (by rw[gd.len];exact(hc.vin _ (List.of_mem_zip hp).1).2)
    obtain⟨y,h1,h2⟩:=lowE_at (gd.few.fine _ hm).ok (fun e=>gd.some' (e▸hm)) p.2
    exact⟨y,fun _=>⟨h1,h2⟩⟩
   ·exact⟨0,fun h=>absurd h hp⟩
  obtain⟨g,hg⟩:=pick_of (coefs:=coefs) hc.nod fun p=>if p=q then x else(hex p).choose
  refine⟨g,fun u hu=> ?_,by rw[hg q hq,if_pos rfl],?_⟩
  ·obtain⟨p,hp,rfl⟩:=zip_var hc.vl hu
   rw[hg p hp]
   split
   ·rename_i e;exact e▸hx
   ·exact((hex p).choose_spec hp).1
  ·unfold sumG
   rw[sum_upd (f:=fun p=>lowE (domAt d p.1) p.2) (q:=q) (zip_nodup hc.nod) hq fun p hp hpq=> ?_,←lowS_zip,hg q hq,if_pos rfl]
   show p.2*g p.1=lowE (domAt d p.1) p.2
   rw[hg p hp,if_neg hpq]
   exact((hex p).choose_spec hp).2.symm
 refine⟨fun d out gd he=> ?_,fun d gd he g hg=> ?_,hc.vin,hne⟩
 ·unfold stepM at he
  split at he
  ·cases he
  ·rename_i hno
   obtain rfl:=Option.some.inj he
   have hw:=hc.whole gd
   refine⟨(MO_good hc gd hno).1,fun v hv x=> ?_,fun v h0 hv=>MO_off hw h0 hv⟩
   obtain⟨q,hq,rfl⟩:=zip_var hc.vl hv
   rw[MO_dom hw hq,(cutAt_ok hw hq _).2 x]
   constructor
   ·rintro⟨h1,h2⟩
    obtain⟨g,h3,h4,h5⟩:=put d gd q hq x h1
    refine⟨g,h3,decide_eq_true ?_,h4⟩
    rw[sumL_map,h5];omega
   ·rintro⟨g,h3,h4,rfl⟩
    have h4:=of_decide_eq_true h4
    rw[sumL_map]at h4
    have:=low d gd g h3 q hq
    exact⟨h3 _ hv,by omega⟩
 ·refine decide_eq_false fun hle=> ?_
  rw[sumL_map]at hle
  unfold stepM at he
  split at he
  ·rename_i hem
   obtain⟨j,hj⟩:=List.getElem?_of_mem hem
   have hw:=hc.whole gd
   have hjn:j<n:=by
    have:=(List.getElem?_eq_some_iff.1 hj).1
    rwa[(MO_ok hw).2.1,gd.len]at this
   have e:domAt (MO d vars coefs rhs) (j:Int)=[]:=by
    unfold domAt
    rw[List.getD_eq_getElem?_getD,Int.toNat_natCast,hj];rfl
   by_cases hv:(j:Int)∈vars
   ·obtain⟨q,hq,hqj⟩:=zip_var hc.vl hv
    have h1:=low d gd g hg q hq
    have h2:=((cutAt_ok hw hq (lowS (termsOf d vars coefs))).2 (g q.1)).2 ⟨hg _ (List.of_mem_zip hq).1,by omega⟩
    rw[←MO_dom hw hq,hqj,e]at h2
    cases h2
   ·rw[MO_off hw (by omega) hv]at e
    exact gd.some' (e▸domAt_mem (by rw[gd.len];simpa using hjn))
  ·cases he
theorem stepM_ok {n:Nat}{vars coefs:List Int}{rhs:Int}(hc:SumC n vars coefs rhs)(hne:vars≠[]):StepOK n vars (fun g=>sumG vars coefs g≤rhs) (stepM vars coefs rhs):=
 (suppM hc hne).step.iff fun g=>by rw[decide_eq_true_eq,sumL_map]
theorem rotherGo_ge: ∀(ts:List (List (Int×Int)×Int)) (i m:Nat) (s:Int) (a:Nat),m≤(rotherGo i ts m s a).1
 | [],i,m,s,a=>Nat.le_refl _
 |t::ts,i,m,s,a=>by
  rw[rotherGo]
  split
  ·have:=rotherGo_ge ts (i+1) (m+1) s i
   omega
  ·exact rotherGo_ge ts _ _ _ _
theorem rotherGo_keep: ∀(ts:List (List (Int×Int)×Int)) (i m:Nat) (s:Int) (a:Nat),(rotherGo i ts m s a).1=m→(rotherGo i ts m s a).2.2=a
 | [],i,m,s,a,_=>rfl
 |t::ts,i,m,s,a,h=>by
  rw[rotherGo]at h⊢
  split at h
  ·have:=rotherGo_ge ts (i+1) (m+1) s i
   omega
  ·rename_i hc
   rw[if_neg hc]
   exact rotherGo_keep ts _ _ _ _ h
theorem rotherGo_two: ∀(ts:List (List (Int×Int)×Int)) (i m:Nat) (s:Int) (a:Nat),
  ((rotherGo i ts m s a).1=m+1→∃(j:Nat) (t:List (Int×Int)×Int),(rotherGo i ts m s a).2.2=i+j∧ts[j]? =some t∧1<(vals t.1).length)∧
  (m+1<(rotherGo i ts m s a).1→∃(j k:Nat) (t u:List (Int×Int)×Int),j≠k∧ts[j]? =some t∧ts[k]? =some u∧1<(vals t.1).length∧1<(vals u.1).length)
 | [],i,m,s,a=>by simp[rotherGo]
 |t::ts,i,m,s,a=>by
  rw[rotherGo]
  by_cases hc:1<(vals t.1).length
  ·rw[if_pos hc]
   refine⟨fun e=> ?_,fun e=> ?_⟩
   ·have hk:=rotherGo_keep ts (i+1) (m+1) s i e
    exact⟨0,t,by rw[hk];rfl,rfl,hc⟩
   ·have hex: ∃(k:Nat) (u:List (Int×Int)×Int),ts[k]? =some u∧1<(vals u.1).length:=by
     refine Classical.byContradiction fun hn=> ?_
     have:=rotherGo_none ts (i+1) (m+1) i s fun u hu h=>hn ((List.mem_iff_getElem?.1 hu).elim fun k hk=>⟨k,u,hk,h⟩)
     omega
    obtain⟨k,u,h5,h6⟩:=hex
    exact⟨0,k+1,t,u,by omega,rfl,by simpa using h5,hc,h6⟩
  ·rw[if_neg hc]
   obtain⟨h3,h4⟩:=rotherGo_two ts (i+1) m (wr (s+wr (t.2*hd0 (vals t.1)))) a
   refine⟨fun e=> ?_,fun e=> ?_⟩
   ·obtain⟨j,u,h5,h6,h7⟩:=h3 e
    exact⟨j+1,u,by omega,by simpa using h6,h7⟩
   ·obtain⟨j,k,u,w,h5,h6,h7,h8,h9⟩:=h4 e
    exact⟨j+1,k+1,u,w,by omega,by simpa using h6,by simpa using h7,h8,h9⟩
theorem supp_of {n:Nat}{d:Doms}(hd:GoodD n d){us:List Int}(hin: ∀u∈us,0≤u∧u.toNat<n){g:Int→Int}(hg: ∀u∈us,g u∈vals (domAt d u)): ∃a,Supp a d∧∀u∈us,atR a u=g u:=by
 have hex: ∀j:Nat,∃x,j<n→x∈vals (domAt d j)∧((j:Int)∈us→x=g j):=fun j=>by
  by_cases hj:(j:Int)∈us
  ·exact⟨g j,fun _=>⟨hg _ hj,fun _=>rfl⟩⟩
  ·by_cases hl:j<n
   ·obtain⟨x,hx⟩:=hd.ne (v:=(j:Int)) (by simpa using hl)
    exact⟨x,fun _=>⟨hx,fun h=>absurd h hj⟩⟩
   ·exact⟨0,fun h=>absurd h hl⟩
 refine⟨(List.range n).map fun j=>(hex j).choose,⟨by simp[hd.len],fun i x v hx hv=> ?_⟩,fun u hu=> ?_⟩
 ·have hi:=(List.getElem?_eq_some_iff.1 hx).1
  have hin':i<n:=by rw[←hd.len];exact hi
  rw[List.getElem?_map,List.getElem?_range hin']at hv
  obtain rfl:=Option.some.inj hv
  have h1:=((hex i).choose_spec hin').1
  have e:domAt d (i:Int)=x:=by
   rw[List.getElem?_eq_getElem hi]at hx
   rw[dom_at hi];exact Option.some.inj hx
  exact e▸h1
 ·obtain⟨h0,h1⟩:=hin u hu
  have e:((u.toNat:Nat):Int)=u:=by omega
  unfold atR
  rw[if_neg (by omega),List.getD_eq_getElem?_getD,List.getElem?_map,List.getElem?_range h1]
  exact(((hex u.toNat).choose_spec h1).2 (by rw[e];exact hu)).trans (congrArg g e)
theorem plain_sumG {vars coefs a:List Int}{g:Int→Int}(h: ∀u∈vars,atR a u=g u):plainS vars coefs a=sumG vars coefs g:=by
 unfold plainS sumG
 congr 1
 exact List.map_congr_left fun p hp=>by rw[h _ (List.of_mem_zip hp).1]
structure LinC (n:Nat)(c:Con):Prop where
 sum:SumC n c.vars c.coefs c.rhs
 pos:0<c.vars.length
 op:0≤c.op∧c.op≤2
theorem LinC.ok {n:Nat}{c:Con}(h:LinC n c){d:Doms}(hd:GoodD n d):SumOk d c:=⟨(h.sum.whole hd).fine,h.sum.nod,h.pos,h.op,h.sum.big⟩
theorem LinC.ne {n:Nat}{c:Con}(h:LinC n c):c.vars≠[]:=fun e=>by have:=h.pos;rw[e]at this;simp at this
theorem GoodD.of_sub {n:Nat}{a b:Doms}(hb:GoodD n b)(h:Sub a b)(hf: ∀x∈a,Fine x)(hne: []∉a):GoodD n a∧leD a b:=by
 have hle:leD a b:=by
  refine⟨h.1,fun v x h0 hx=> ?_⟩
  by_cases hl:v.toNat<a.length
  ·exact h.2 v.toNat _ _ (domAt_some hl) (domAt_some (by rw[←h.1];exact hl)) x hx
  ·rw[dom_none (by omega)]at hx;cases hx
 refine⟨⟨⟨by rw[h.1];exact hb.few.small,hf,fun x hx=> ?_⟩,by rw[h.1,hb.len],hne⟩,hle⟩
 obtain⟨j,hj⟩:=List.getElem?_of_mem hx
 have hjl:=(List.getElem?_eq_some_iff.1 hj).1
 have hjd:j<b.length:=by rw[←h.1];exact hjl
 have:=up_length_le (vals_up (hf x hx).ok) fun v hv=>h.2 j x _ hj (List.getElem?_eq_getElem hjd) v hv
 have:=hb.few.few _ (List.getElem_mem hjd)
 omega
def neO (c:Con)(d:Doms):Option Doms:=if []∈rotherW d c then none else some (rotherW d c)
theorem rother_off {d:Doms}{c:Con}(hp:0<c.vars.length)(hl:c.vars.length=c.coefs.length)(h0: ∀v∈c.vars,0≤v){v:Int}(hv0:0≤v)(hv:v∉c.vars):domAt (rotherW d c) v=domAt d v:=by
 have hin:=rotherGo_in (termsOf d c.vars c.coefs) 0 0 0 0 c.vars.length hp (by simp[termsOf];omega) (Nat.le_refl _)
 have key: ∀(k:Nat) (y:List (Int×Int)),k<c.vars.length→domAt (d.set (varAt c k).toNat y) v=domAt d v:=fun k y hk=>by
  have hm:=varAt_mem (c:=c) hk
  have h1:=h0 _ hm
  have hne:(varAt c k).toNat≠v.toNat:=fun e=>hv ((show varAt c k=v by omega)▸hm)
  unfold domAt
  rw[List.getD_eq_getElem?_getD,List.getD_eq_getElem?_getD,List.getElem?_set_ne hne]
 unfold rotherW
 simp only
 split
 ·rfl
 ·split
  ·split
   ·exact key 0 _ hp
   ·rfl
  ·exact key _ _ hin.1
theorem suppN {n:Nat}{c:Con}(h:LinC n c)(hop:c.op=2):SuppS n c.vars (fun l=>decide (sumL c.coefs l≠c.rhs)) (neO c):=by
 have hc:=h.sum
 have hans: ∀d,GoodD n d→LinAns d c (neO c d) 0:=fun d gd=>by
  have hw:WholeC c d:=hc.whole gd
  unfold LinAns
  rw[if_neg gd.some',if_pos hop,other_same hw h.pos]
  rfl
 have keep: ∀d,GoodD n d→∀g:Int→Int,(∀u∈c.vars,g u∈vals (domAt d u))→sumG c.vars c.coefs g≠c.rhs→[]∉rotherW d c∧∀u∈c.vars,g u∈vals (domAt (rotherW d c) u):=fun d gd g hg hne=>by
  obtain⟨a,ha,hag⟩:=supp_of gd hc.vin hg
  have hw:WholeC c d:=hc.whole gd
  have hs:=rother_supp hw h.pos ha (by rw[plain_sumG hag];exact hne)
  refine⟨hs.ne,fun u hu=> ?_⟩
  have hv:=hc.vin u hu
  have:=hs.at hv.1 (by rw[(rother_fine hw h.pos).1,gd.len];exact hv.2)
  rwa[hag u hu]at this
 refine⟨fun d out gd he=> ?_,fun d gd he g hg=> ?_,hc.vin,h.ne⟩
 ·have hA:=hans d gd
  rw[he]at hA
  have hsub:=lin_sub (h.ok gd) hA
  have hw:WholeC c d:=hc.whole gd
  unfold neO at he
  split at he
  ·cases he
  ·rename_i hno
   obtain rfl:=Option.some.inj he
   obtain⟨go,hle⟩:=GoodD.of_sub gd hsub (rother_fine hw h.pos).2 hno
   refine⟨go,fun v hv x=>⟨fun hx=> ?_,?_⟩,fun v h0 hv=>rother_off h.pos hc.vl (fun v hv=>(hc.vin v hv).1) h0 hv⟩
   ·refine Classical.byContradiction fun hn=> ?_
    have hx0:=hle.2 v x (hc.vin v hv).1 hx
    have hall: ∀g:Int→Int,(∀u∈c.vars,g u∈vals (domAt d u))→g v=x→sumG c.vars c.coefs g=c.rhs:=fun g h1 h2=>by
     refine Classical.byContradiction fun h3=>hn ⟨g,h1,decide_eq_true ?_,h2⟩
     rw[sumL_map];exact h3
    obtain⟨q,hq,rfl⟩:=zip_var hc.vl hv
    have hex: ∀u:Int,∃y,u∈c.vars→y∈vals (domAt d u):=fun u=>by
     by_cases hu:u∈c.vars
     ·obtain⟨y,hy⟩:=gd.ne (hc.vin u hu).2
      exact⟨y,fun _=>hy⟩
     ·exact⟨0,fun h=>absurd h hu⟩
    let g0:Int→Int:=fun u=>if u=q.1 then x else(hex u).choose
    have hg0: ∀u∈c.vars,g0 u∈vals (domAt d u):=fun u hu=>by
     simp only[g0]
     split
     ·rename_i e;rw[e];exact hx0
     ·exact(hex u).choose_spec hu
    have hg0x:g0 q.1=x:=if_pos rfl
    have hs0:=hall g0 hg0 hg0x
    have single: ∀p∈c.vars.zip c.coefs,p.1≠q.1→¬1<(vals (domAt d p.1)).length:=fun p hp hpq=>by
     have hpv:=(List.of_mem_zip hp).1
     have heq: ∀y∈vals (domAt d p.1),y=g0 p.1:=fun y hy=>by
      have h1:=hall (fun u=>if u=p.1 then y else g0 u) (fun u hu=>by
       by_cases e:u=p.1
       ·rw[if_pos e,e];exact hy
       ·rw[if_neg e];exact hg0 u hu) ((if_neg (Ne.symm hpq)).trans hg0x)
      have h2:sumG c.vars c.coefs (fun u=>if u=p.1 then y else g0 u)=sumG c.vars c.coefs g0-p.2*g0 p.1+p.2*y:=by
       unfold sumG
       rw[sum_upd (f:=fun r:Int×Int=>r.2*g0 r.1) (f':=fun r=>r.2*(if r.1=p.1 then y else g0 r.1)) (zip_nodup hc.nod) hp fun r hr hrp=> ?_,if_pos rfl]
       rw[if_neg fun e=>hrp (zip_uniq hc.nod hr hp e)]
      have hk:=(hc.ck _ (List.of_mem_zip hp).2).1
      have h3:p.2*y=p.2*g0 p.1:=by omega
      exact Int.eq_of_mul_eq_mul_left hk h3
     have hu:=vals_up (gd.few.fine _ (domAt_mem (v:=p.1) (by rw[gd.len];exact(hc.vin _ hpv).2))).ok
     intro hl
     cases hv2:vals (domAt d p.1)with
     |nil=>rw[hv2]at hl;simp at hl
     |cons y l=>
      cases l with
      |nil=>rw[hv2]at hl;simp at hl
      |cons z l=>
       rw[hv2]at hu heq
       have h4:=(List.pairwise_cons.1 hu).1 z (.head _)
       have h5:=heq y (.head _)
       have h6:=heq z (.tail _ (.head _))
       omega
    have hzl:(c.vars.zip c.coefs).length=c.vars.length:=by have:=hc.vl;simp;omega
    have hterm: ∀(j:Nat) t,(termsOf d c.vars c.coefs)[j]? =some t→∃p,(c.vars.zip c.coefs)[j]? =some p∧t=(domAt d p.1,p.2):=fun j t ht=>by
     unfold termsOf at ht
     rw[List.getElem?_map]at ht
     cases hp:(c.vars.zip c.coefs)[j]? with
     |none=>rw[hp]at ht;cases ht
     |some p=>rw[hp]at ht;exact⟨p,rfl,(Option.some.inj ht).symm⟩
    have hmulti: ∀(j:Nat) t,(termsOf d c.vars c.coefs)[j]? =some t→1<(vals t.1).length→(c.vars.zip c.coefs)[j]? =some q:=fun j t ht hl=>by
     obtain⟨p,hp,rfl⟩:=hterm j t ht
     have hpm:=List.mem_of_getElem? hp
     by_cases e:p.1=q.1
     ·rw[hp,zip_uniq hc.nod hpm hq e]
     ·exact absurd hl (single p hpm e)
    have hone: ∀(j k:Nat),(c.vars.zip c.coefs)[j]? =some q→(c.vars.zip c.coefs)[k]? =some q→j=k:=fun j k h1 h2=>by
     have hj:=(List.getElem?_eq_some_iff.1 h1).1
     have hk:=(List.getElem?_eq_some_iff.1 h2).1
     have e1:(c.vars.zip c.coefs)[j]=(c.vars.zip c.coefs)[k]:=by
      rw[List.getElem?_eq_getElem hj]at h1
      rw[List.getElem?_eq_getElem hk]at h2
      exact(Option.some.inj h1).trans (Option.some.inj h2).symm
     exact(List.getElem_inj (zip_nodup hc.nod)).1 e1
    obtain⟨t1,t2⟩:=rotherGo_two (termsOf d c.vars c.coefs) 0 0 0 0
    let ts:List ((List (Int×Int)×Int)×Int):=(c.vars.zip c.coefs).map fun p=>((domAt d p.1,p.2),g0 p.1)
    have et:ts.map (·.1)=termsOf d c.vars c.coefs:=by simp only[ts,List.map_map];rfl
    have eS:(ts.map fun t=>t.1.2*t.2).sum=sumG c.vars c.coefs g0:=by simp only[ts,List.map_map];rfl
    have hvt:ValsIn ts:=by
     intro t ht
     obtain⟨p,hp,rfl⟩:=List.mem_map.1 ht
     exact hg0 _ (List.of_mem_zip hp).1
    have hww:=terms_weight (d:=d) hc.vl
    have hb:=hc.big
    have har:=absK_pos c.rhs
    have key:=rotherGo_sum (B:=weightK c.coefs) (by omega) ts 0 0 0 0 (by rw[et];exact terms_ok hw.fine) hvt (by rw[et];omega) (by rw[et];omega)
    rw[et,eS,hs0]at key
    obtain⟨k1,_,k3⟩:=key
    have hin:=rotherGo_in (termsOf d c.vars c.coefs) 0 0 0 0 c.vars.length h.pos (by simp[termsOf];have:=hc.vl;omega) (Nat.le_refl _)
    unfold rotherW at hno hx
    simp only at hno hx
    by_cases hm2:1<(rotherGo 0 (termsOf d c.vars c.coefs) 0 0 0).1
    ·obtain⟨j,k,t,u,h1,h2,h3,h4,h5⟩:=t2 (by omega)
     exact h1 (hone j k (hmulti j t h2 h4) (hmulti k u h3 h5))
    ·rw[if_neg hm2]at hno hx
     by_cases hm0:(rotherGo 0 (termsOf d c.vars c.coefs) 0 0 0).1=0
     ·rw[if_pos hm0,if_pos (by have:=(k1 hm0).1;omega)]at hno
      refine hno ((set_empty ?_ gd.some').2 rfl)
      rw[gd.len]
      exact(hc.vin _ (varAt_mem (c:=c) h.pos)).2
     ·rw[if_neg hm0]at hx
      obtain⟨j,t,j1,j2,j3⟩:=t1 (by omega)
      obtain⟨j',t',i1,i2,i3⟩:=k3 (by omega)
      have ejj:j'=j:=by omega
      subst ejj
      have hjq:=hmulti _ t j2 j3
      have hj:j'<c.vars.length:=by have:=(List.getElem?_eq_some_iff.1 hjq).1;omega
      have ev:varAt c j'=q.1∧coefAt c j'=q.2:=by
       have h1:=(List.getElem?_eq_some_iff.1 hjq).2
       have hjc:j'<c.coefs.length:=by have:=hc.vl;omega
       rw[List.getElem_zip]at h1
       rw[←h1]
       exact⟨getD_at hj,getD_at hjc⟩
      have et':t'=((domAt d q.1,q.2),x):=by
       simp only[ts,List.getElem?_map,hjq,Option.map_some,Option.some.injEq]at i2
       rw[←i2,hg0x]
      rw[et']at i3
      simp only[Int.zero_add]at i3
      rw[j1,Nat.zero_add,ev.1,ev.2]at hx
      have hqv:=hc.vin _ (List.of_mem_zip hq).1
      have hxd:=gd.few.fine _ (domAt_mem (v:=q.1) (by rw[gd.len];exact hqv.2))
      have e:domAt (d.set q.1.toNat (pack ((vals (domAt d q.1)).filter fun v=>decide (wr ((rotherGo 0 (termsOf d c.vars c.coefs) 0 0 0).2.1+wr (q.2*v))≠c.rhs)))) q.1=pack ((vals (domAt d q.1)).filter fun v=>decide (wr ((rotherGo 0 (termsOf d c.vars c.coefs) 0 0 0).2.1+wr (q.2*v))≠c.rhs)):=by
       unfold domAt
       rw[List.getD_eq_getElem?_getD,List.getElem?_set_self (by rw[gd.len];exact hqv.2)];rfl
      rw[e,vals_pack (filter_up (vals_up hxd.ok)),List.mem_filter,decide_eq_true_eq]at hx
      have b:=hxd.val _ hx0
      have hk:=hc.ck _ (List.of_mem_zip hq).2
      have m:=mul_in q.2 x b.1 b.2
      have hk2:=hk.2
      have hrb: -c.rhs≤absK c.rhs∧c.rhs≤absK c.rhs:=by unfold absK;omega
      have hwk:=weightK_pos c.coefs
      refine hx.2 ?_
      simp only[wr]
      rw[wrap_id (n:=q.2*x) (by omega) (by omega),wrap_id (by omega) (by omega)]
      omega
   ·rintro⟨g,h3,h4,rfl⟩
    have h4:=of_decide_eq_true h4
    rw[sumL_map]at h4
    exact(keep d gd g h3 h4).2 v hv
 ·refine decide_eq_false fun hne=> ?_
  rw[sumL_map]at hne
  have:=(keep d gd g hg hne).1
  unfold neO at he
  rw[if_neg this]at he
  cases he
open Classical in
noncomputable def linO (c:Con)(d:Doms):Option Doms:=if h: ∃R:Option Doms,∃N,LinAns d c R N then h.choose else none
theorem linO_ans {d:Doms}{c:Con}(h:SumOk d c): ∃N,LinAns d c (linO c d) N:=by
 obtain⟨R,N,N',h1,h2,h3⟩:=lin_ans h
 have hex: ∃R:Option Doms,∃N,LinAns d c R N:=⟨R,N,h1⟩
 unfold linO
 rw[dif_pos hex]
 exact hex.choose_spec
theorem sumG_turned {vars coefs:List Int}(g:Int→Int)(h: ∀k∈coefs,CoefOk k):sumG vars (turnedW coefs) g= -sumG vars coefs g:=by
 unfold sumG turnedW
 induction vars generalizing coefs with
 |nil=>simp
 |cons v vars ih=>
  cases coefs with
  |nil=>simp
  |cons k coefs=>
   have e:=(turned_ok (h k (.head _))).1
   have:=ih fun k hk=>h k (.tail _ hk)
   simp only[List.map_cons,List.zip_cons_cons,List.sum_cons]at this⊢
   rw[this,e,Int.neg_mul]
   omega
theorem SumC.back {n:Nat}{vars coefs:List Int}{rhs:Int}(h:SumC n vars coefs rhs):SumC n vars (turnedW coefs) (wr (0-rhs)):=by
 have hb:=h.big
 have hp:=weightK_pos coefs
 refine⟨by rw[h.vl];simp[turnedW],h.vin,fun k hk=> ?_,h.nod,?_,h.few⟩
 ·obtain⟨k0,hk0,rfl⟩:=List.mem_map.1 hk
  exact(turned_ok (h.ck _ hk0)).2
 ·rw[weightK_turned _ h.ck,(wr_neg (by omega)).2]
  exact hb
theorem lin_step {n:Nat}{c:Con}(h:LinC n c):StepOK n c.vars (fun g=>heldR c.op (sumG c.vars c.coefs g) c.rhs=true) (linO c):=by
 have hc:=h.sum
 have hopc:c.op=0∨c.op=1∨c.op=2:=by have:=h.op;omega
 rcases hopc with h0|h0|h0
 ·refine((stepM_ok hc h.ne).congr fun d gd=> ?_).iff fun g=> ?_
  ·obtain⟨N,hN⟩:=linO_ans (h.ok gd)
   unfold LinAns at hN
   rw[if_neg gd.some',if_neg (by omega)]at hN
   rw[lin0_eq hc h0 gd hN]
   rfl
  ·unfold heldR
   rw[if_pos h0,decide_eq_true_eq]
 ·have hE: ∀d,GoodD n d→Ends leD (GoodD n) (cutsF c) [true,false] d (linO c d):=fun d gd=>by
   obtain⟨N,hN⟩:=linO_ans (h.ok gd)
   unfold LinAns at hN
   rw[if_neg gd.some',if_neg (by omega)]at hN
   exact lin1_ends hc hc.back h0 d N d _ (Come.refl (orderD n) gd) hN
  refine(Ends.step hE (P:=fun b g=>if b=true then sumG c.vars c.coefs g≤c.rhs else sumG c.vars (turnedW c.coefs) g≤wr (0-c.rhs)) (us:=c.vars) (fun b _=> ?_) hc.vin).iff fun g=> ?_
  ·cases b
   ·exact(stepM_ok hc.back h.ne).iff fun g=>by simp
   ·exact(stepM_ok hc h.ne).iff fun g=>by simp
  ·have hb:=hc.big
   have hp:=weightK_pos c.coefs
   have e1:=(wr_neg (rhs:=c.rhs) (by omega)).1
   have e2:=sumG_turned (vars:=c.vars) g hc.ck
   unfold heldR
   rw[if_neg (by omega),h0]
   simp only[List.mem_cons,List.not_mem_nil,or_false,forall_eq_or_imp,forall_eq,if_true,Bool.false_eq_true,if_false,e1,e2]
   simp
   omega
 ·refine((suppN h h0).step.congr fun d gd=> ?_).iff fun g=> ?_
  ·obtain⟨N,hN⟩:=linO_ans (h.ok gd)
   have hw:WholeC c d:=hc.whole gd
   unfold LinAns at hN
   rw[if_neg gd.some',if_pos h0,other_same hw h.pos]at hN
   exact hN
  ·unfold heldR
   rw[if_neg (by omega),h0,sumL_map]
   simp
theorem held_not {c:Con}(g:Int→Int)(hck: ∀k∈c.coefs,CoefOk k)(hop:0≤c.op∧c.op≤2)(hr:absK c.rhs≤4611686018427387904):heldR (notW c).op (sumG (notW c).vars (notW c).coefs g) (notW c).rhs= !heldR c.op (sumG c.vars c.coefs g) c.rhs:=by
 have har:absK c.rhs=max c.rhs (-c.rhs):=rfl
 have hopc:c.op=0∨c.op=1∨c.op=2:=by omega
 rcases hopc with h0|h0|h0
 ·have en:notW c= { c with coefs:=turnedW c.coefs,rhs:=wr (wr (0-c.rhs)-1) }:=by unfold notW;rw[if_pos h0]
  have e1:wr (0-c.rhs)= -c.rhs:=by rw[wr,wrap_id (by omega) (by omega)];omega
  have e2:wr (wr (0-c.rhs)-1)= -c.rhs-1:=by rw[e1,wr,wrap_id (by omega) (by omega)]
  rw[en]
  simp only[heldR,h0,if_true,e2,sumG_turned g hck]
  by_cases hh:sumG c.vars c.coefs g≤c.rhs
  ·rw[decide_eq_true hh,decide_eq_false (by omega)];rfl
  ·rw[decide_eq_false hh,decide_eq_true (by omega)];rfl
 ·have en:notW c= { c with op:=2 }:=by unfold notW;rw[if_neg (by omega),if_pos h0]
  rw[en]
  simp[heldR,h0]
 ·have en:notW c= { c with op:=1 }:=by unfold notW;rw[if_neg (by omega),if_neg (by omega),if_pos h0]
  rw[en]
  simp[heldR,h0]
theorem terms_congr {a b:Doms}{vars coefs:List Int}(h: ∀u∈vars,domAt a u=domAt b u):termsOf a vars coefs=termsOf b vars coefs:=
 List.map_congr_left fun p hp=>by rw[h _ (List.of_mem_zip hp).1]
theorem ends_mono {n:Nat}{a b:Doms}{vars coefs:List Int}{rhs:Int}(hc:SumC n vars coefs rhs)(ga:GoodD n a)(gb:GoodD n b)(h:leD a b):lowS (termsOf b vars coefs)≤lowS (termsOf a vars coefs)∧highS (termsOf a vars coefs)≤highS (termsOf b vars coefs):=by
 have low: ∀ks:List Int,lowS (termsOf b vars ks)≤lowS (termsOf a vars ks):=fun ks=>by
  rw[lowS_zip,lowS_zip]
  refine(sum_le_sum fun p hp=> ?_).1
  have hv:=hc.vin _ (List.of_mem_zip hp).1
  have hm:domAt a p.1∈a:=domAt_mem (by rw[ga.len];exact hv.2)
  exact lowE_mono (ga.few.fine _ hm).ok (gb.few.fine _ (domAt_mem (by rw[gb.len];exact hv.2))).ok (fun e=>ga.some' (e▸hm)) (fun x hx=>h.2 p.1 x hv.1 hx) p.2
 have h2:=low (turnedW coefs)
 rw[low_turned hc.ck,low_turned hc.ck]at h2
 exact⟨low coefs,by omega⟩
theorem so_mono {n:Nat}{a b:Doms}{c:Con}(hc:LinC n c)(ga:GoodD n a)(gb:GoodD n b)(h:leD a b)(hs:soW (endsW b c.vars c.coefs) c=true):soW (endsW a c.vars c.coefs) c=true:=by
 obtain⟨h1,h2⟩:=ends_mono hc.sum ga gb h
 have hle:lowS (termsOf a c.vars c.coefs)≤highS (termsOf a c.vars c.coefs):=(sums_in (terms_ok (hc.sum.whole ga).fine) (terms_ne (hc.sum.whole ga))).2.1
 rw[ends_whole (hc.sum.whole gb)]at hs
 rw[ends_whole (hc.sum.whole ga)]
 unfold soW at hs⊢
 simp only[Bool.true_eq_false,if_false]at hs⊢
 split
 ·rename_i h0
  rw[if_pos h0]at hs
  exact decide_eq_true (by have:=of_decide_eq_true hs;omega)
 ·rename_i h0
  rw[if_neg h0]at hs
  split
  ·rename_i h3
   rw[if_pos h3]at hs
   simp only[Bool.and_eq_true,decide_eq_true_eq]at hs⊢
   omega
  ·rename_i h3
   rw[if_neg h3]at hs
   simp only[Bool.or_eq_true,decide_eq_true_eq]at hs⊢
   omega
theorem linO_stay {n:Nat}{c:Con}(hc:LinC n c){d:Doms}(gd:GoodD n d)(hs:soW (endsW d c.vars c.coefs) c=true):linO c d=some d:=by
 obtain⟨R,N,N',h1,h2,h3⟩:=lin_ans (hc.ok gd)
 obtain⟨M,hM⟩:=linO_ans (hc.ok gd)
 have e:=lin_det hM h1
 rw[e]
 exact lin_stay (hc.ok gd) gd.some' h1 h3 hs
noncomputable def reifO (c:Con)(d:Doms):Option Doms:=if truthR (domAt d c.b)=true then reifW d c (linO (sumOf c) d) (linO (notW (sumOf c)) d)else some d
theorem truth_vals {x:List (Int×Int)}(h:DomOk x):truthR x=true↔∀v∈vals x,0≤v∧v≤1:=by
 constructor
 ·intro ht v hv
  obtain⟨r,hr,h1,h2⟩:=mem_vals.1 hv
  have:=List.all_eq_true.1 ht r hr
  simp at this
  omega
 ·intro hv
  refine List.all_eq_true.2 fun r hr=> ?_
  have h0:=h.1 r hr
  have h1:=hv r.1 (mem_vals.2 ⟨r,hr,Int.le_refl _,h0⟩)
  have h2:=hv r.2 (mem_vals.2 ⟨r,hr,h0,Int.le_refl _⟩)
  simp
  omega
theorem GoodD.at_ {n:Nat}{d:Doms}(h:GoodD n d){v:Int}(hv:v.toNat<n):DomOk (domAt d v)∧domAt d v≠[]:=by
 have hm:domAt d v∈d:=domAt_mem (by rw[h.len];exact hv)
 exact⟨(h.few.fine _ hm).ok,fun e=>h.some' (e▸hm)⟩
theorem dom_set {d:Doms}{b v:Int}{x:List (Int×Int)}(hb:0≤b)(hl:b.toNat<d.length)(hv:0≤v):domAt (d.set b.toNat x) v=if v=b then x else domAt d v:=by
 unfold domAt
 rw[List.getD_eq_getElem?_getD]
 split
 ·rename_i e;subst e;rw[List.getElem?_set_self hl];rfl
 ·rename_i e;rw[List.getElem?_set_ne (by omega),←List.getD_eq_getElem?_getD]
theorem setD_same {d:Doms}{b:Int}(hl:b.toNat<d.length):d.set b.toNat (domAt d b)=d:=by
 refine List.ext_getElem? fun i=> ?_
 by_cases e:b.toNat=i
 ·subst e;rw[List.getElem?_set_self hl,domAt_some hl]
 ·rw[List.getElem?_set_ne e]
theorem keep_ok {n:Nat}{d:Doms}{b w:Int}(gd:GoodD n d)(hb:0≤b∧b.toNat<n){out:Doms}(he:keepO d b w=some out):GoodD n out∧leD out d∧(∀v,0≤v→v≠b→domAt out v=domAt d v)∧(∀x,x∈vals (domAt out b)↔x∈vals (domAt d b)∧x=w):=by
 have hbl:b.toNat<d.length:=by rw[gd.len];exact hb.2
 obtain⟨hok,hne⟩:=gd.at_ hb.2
 unfold keepO at he
 split at he
 ·cases he
 ·rename_i hx
  obtain rfl:=Option.some.inj he
  obtain⟨c1,c2⟩:=domCut_ok hok w w
  generalize domCut (domAt d b) w w=x at*
  have hsub:Sub (d.set b.toNat x) d:=sub_set fun y hy v hv=>by
   rw[domAt_some hbl]at hy
   exact Option.some.inj hy▸((c2 v).1 hv).1
  have hfx:Fine x:=(gd.few.fine _ (domAt_mem hbl)).cut c1 fun v hv=>((c2 v).1 hv).1
  obtain⟨g1,g2⟩:=GoodD.of_sub gd hsub (mem_set gd.few.fine hfx) (fun hm=>hx ((set_empty hbl gd.some').1 hm))
  refine⟨g1,g2,fun v h0 hv=>by rw[dom_set hb.1 hbl h0,if_neg hv],fun y=> ?_⟩
  rw[dom_set hb.1 hbl hb.1,if_pos rfl,c2]
  constructor
  ·rintro⟨h1,h2,h3⟩;exact⟨h1,by omega⟩
  ·rintro⟨h1,rfl⟩;exact⟨h1,Int.le_refl _,Int.le_refl _⟩
theorem keep_some {n:Nat}{d:Doms}{b w:Int}(gd:GoodD n d)(hb:0≤b∧b.toNat<n)(hw:w∈vals (domAt d b)): ∃out,keepO d b w=some out:=by
 obtain⟨hok,hne⟩:=gd.at_ hb.2
 unfold keepO
 rw[if_neg]
 ·exact⟨_,rfl⟩
 ·intro e
  have:=((domCut_ok hok w w).2 w).2 ⟨hw,Int.le_refl _,Int.le_refl _⟩
  rw[e]at this;cases this
theorem keep_in {n:Nat}{d:Doms}{b w:Int}(gd:GoodD n d)(hb:0≤b∧b.toNat<n){out:Doms}(he:keepO d b w=some out):w∈vals (domAt d b):=by
 obtain⟨g1,g2,g3,g4⟩:=keep_ok gd hb he
 obtain⟨x,hx⟩:=g1.ne hb.2
 obtain⟨h1,rfl⟩:=(g4 x).1 hx
 exact h1
theorem keep_same {n:Nat}{d:Doms}{b w:Int}(gd:GoodD n d)(hb:0≤b∧b.toNat<n):keepO d b w=some d↔vals (domAt d b)=[w]:=by
 obtain⟨hok,hne⟩:=gd.at_ hb.2
 constructor
 ·intro he
  obtain⟨g1,g2,g3,g4⟩:=keep_ok gd hb he
  refine up_ext (vals_up hok) (List.pairwise_singleton _ _) fun x=> ?_
  rw[g4 x,List.mem_singleton]
  exact⟨fun h=>h.2,fun h=>⟨h▸keep_in gd hb he,h⟩⟩
 ·intro hv
  obtain⟨out,ho⟩:=keep_some gd hb (w:=w) (by rw[hv];exact .head _)
  obtain⟨g1,g2,g3,g4⟩:=keep_ok gd hb ho
  rw[ho]
  congr 1
  refine doms_ext g1 gd fun v x h0=> ?_
  by_cases e:v=b
  ·subst e
   rw[g4 x,hv,List.mem_singleton]
   exact⟨fun h=>h.1,fun h=>⟨h,h⟩⟩
  ·rw[g3 v h0 e]
theorem has_iff {x:List (Int×Int)}{v:Int}:hasV x v=true↔v∈vals x:=by
 unfold hasV
 rw[List.any_eq_true,mem_vals]
 simp
structure ReifC (n:Nat)(c:Con):Prop where
 yes:LinC n (sumOf c)
 no:LinC n (notW (sumOf c))
 b:0≤c.b∧c.b.toNat<n
 apart:c.b∉c.vars
 small:absK c.rhs≤4611686018427387904
theorem not_vars (c:Con):(notW c).vars=c.vars:=by
 unfold notW
 split
 ·rfl
 ·split
  ·rfl
  ·split<;>rfl
theorem reif_not {n:Nat}{c:Con}(h:ReifC n c){d:Doms}(gd:GoodD n d)(hy:yesW d c=true)(hn:noW d c=true):False:=by
 have hdl:0<d.length:=by rw[gd.len];have:=h.b;omega
 obtain⟨a,ha⟩:=supp_some gd.few.fine gd.some' hdl
 have h1:=so_holds (h.yes.ok gd).fine (by have:=h.yes.sum.big;have:=absK_pos (sumOf c).rhs;omega) h.yes.op ha hy
 have h2:=not_holds (h.yes.ok gd) ha hn
 rw[h1]at h2;cases h2
theorem reif_step {n:Nat}{c:Con}(h:ReifC n c):StepOK n (c.vars++[c.b]) (fun g=>(0≤g c.b∧g c.b≤1)→(heldR c.op (sumG c.vars c.coefs g) c.rhs=true∧g c.b=1)∨(heldR c.op (sumG c.vars c.coefs g) c.rhs=false∧g c.b=0)) (reifO c):=by
 have sy:=lin_step h.yes
 have sn:=lin_step h.no
 have hvn:(notW (sumOf c)).vars=c.vars:=not_vars (sumOf c)
 rw[hvn]at sn
 have hb:=h.b
 have tr: ∀d,GoodD n d→(truthR (domAt d c.b)=true↔∀v∈vals (domAt d c.b),0≤v∧v≤1):=fun d gd=>truth_vals (gd.at_ hb.2).1
 have ym: ∀a b,GoodD n a→GoodD n b→leD a b→yesW b c=true→yesW a c=true:=fun a b ga gb hle hy=>so_mono (c:=sumOf c) h.yes ga gb hle hy
 have nm: ∀a b,GoodD n a→GoodD n b→leD a b→noW b c=true→noW a c=true:=fun a b ga gb hle hy=>so_mono (c:=notW (sumOf c)) h.no ga gb hle hy
 have yst: ∀a,GoodD n a→yesW a c=true→linO (sumOf c) a=some a:=fun a ga hy=>linO_stay (c:=sumOf c) h.yes ga hy
 have nst: ∀a,GoodD n a→noW a c=true→linO (notW (sumOf c)) a=some a:=fun a ga hy=>linO_stay (c:=notW (sumOf c)) h.no ga hy
 have hf: ∀d,GoodD n d→reifO c d=if truthR (domAt d c.b)=true then(if yesW d c=true then keepO d c.b 1 else if noW d c=true then keepO d c.b 0 else if hasV (domAt d c.b) 0=false then linO (sumOf c) d else if hasV (domAt d c.b) 1=false then linO (notW (sumOf c)) d else some d)else some d:=fun d gd=>by
  unfold reifO reifW
  rw[if_neg gd.some']
 have hin: ∀u∈c.vars++[c.b],0≤u∧u.toNat<n:=fun u hu=>by
  rcases List.mem_append.1 hu with hu|hu
  ·exact sy.in' u hu
  ·rw[List.mem_singleton.1 hu];exact hb
 refine StepOK.congr (f:=fun d=>if truthR (domAt d c.b)=true then(if yesW d c=true then keepO d c.b 1 else if noW d c=true then keepO d c.b 0 else if hasV (domAt d c.b) 0=false then linO (sumOf c) d else if hasV (domAt d c.b) 1=false then linO (notW (sumOf c)) d else some d)else some d) ⟨⟨fun a a' ga he=> ?_,fun a a' b ga gb hle he=> ?_⟩,fun a b ga gb ha hab=> ?_,fun a out ga he v h0 hv=> ?_,fun e ge g he=> ?_,hin⟩ hf
 ·split at he
  ·split at he
   ·obtain⟨g1,g2,_⟩:=keep_ok ga hb he
    exact⟨g1,g2⟩
   ·split at he
    ·obtain⟨g1,g2,_⟩:=keep_ok ga hb he
     exact⟨g1,g2⟩
    ·split at he
     ·exact sy.takes.less a a' ga he
     ·split at he
      ·exact sn.takes.less a a' ga he
      ·obtain rfl:=Option.some.inj he
       exact⟨ga,(orderD n).refl a⟩
  ·obtain rfl:=Option.some.inj he
   exact⟨ga,(orderD n).refl a⟩
 ·
  have hless:leD a' a:=by
   split at he
   ·split at he
    ·exact(keep_ok ga hb he).2.1
    ·split at he
     ·exact(keep_ok ga hb he).2.1
     ·split at he
      ·exact(sy.takes.less a a' ga he).2
      ·split at he
       ·exact(sn.takes.less a a' ga he).2
       ·exact Option.some.inj he▸(orderD n).refl a
   ·exact Option.some.inj he▸(orderD n).refl a
  have stay: ∃b',some b=some b'∧leD a' b':=⟨b,rfl,(orderD n).trans _ _ _ hless hle⟩
  by_cases htb:truthR (domAt b c.b)=true
  ·have hta:truthR (domAt a c.b)=true:=(tr a ga).2 fun v hv=>(tr b gb).1 htb v (hle.2 _ v hb.1 hv)
   rw[if_pos hta]at he
   rw[if_pos htb]
   have kmono: ∀w,keepO a c.b w=some a'→∃b',keepO b c.b w=some b'∧leD a' b':=fun w hk=>by
    obtain⟨g1,g2,g3,g4⟩:=keep_ok ga hb hk
    obtain⟨b',hb'⟩:=keep_some gb hb (hle.2 _ w hb.1 (keep_in ga hb hk))
    obtain⟨k1,k2,k3,k4⟩:=keep_ok gb hb hb'
    refine⟨b',hb',by rw[g1.len,k1.len],fun v x h0 hx=> ?_⟩
    by_cases e:v=c.b
    ·subst e
     obtain⟨h1,h2⟩:=(g4 x).1 hx
     exact(k4 x).2 ⟨hle.2 _ x h0 h1,h2⟩
    ·rw[g3 v h0 e]at hx
     rw[k3 v h0 e]
     exact hle.2 v x h0 hx
   by_cases hyb:yesW b c=true
   ·rw[if_pos hyb]
    rw[if_pos (ym a b ga gb hle hyb)]at he
    exact kmono 1 he
   ·rw[if_neg hyb]
    by_cases hnb:noW b c=true
    ·rw[if_pos hnb]
     have hna:=nm a b ga gb hle hnb
     rw[if_neg (fun hy=>reif_not h ga hy hna),if_pos hna]at he
     exact kmono 0 he
    ·rw[if_neg hnb]
     by_cases h0b:hasV (domAt b c.b) 0=false
     ·rw[if_pos h0b]
      have h0a:hasV (domAt a c.b) 0=false:=by
       cases hh:hasV (domAt a c.b) 0 with
       |false=>rfl
       |true=>rw[has_iff.2 (hle.2 _ 0 hb.1 (has_iff.1 hh))]at h0b;cases h0b
      have hle':a'=a∨linO (sumOf c) a=some a':=by
       by_cases hya:yesW a c=true
       ·rw[if_pos hya]at he
        refine .inl ?_
        have hv:vals (domAt a c.b)=[1]:=by
         obtain⟨x,hx⟩:=ga.ne hb.2
         have hone: ∀y∈vals (domAt a c.b),y=1:=fun y hy=>by
          have h1:=(tr a ga).1 hta y hy
          have h2:y≠0:=fun e=>by rw[e]at hy;rw[has_iff.2 hy]at h0a;cases h0a
          omega
         exact up_ext (vals_up (ga.at_ hb.2).1) (List.pairwise_singleton _ _) fun y=>⟨fun hy=>List.mem_singleton.2 (hone y hy),fun hy=>by rw[List.mem_singleton.1 hy,←hone x hx];exact hx⟩
        rw[(keep_same ga hb).2 hv]at he
        exact(Option.some.inj he).symm
       ·rw[if_neg hya]at he
        by_cases hna:noW a c=true
        ·rw[if_pos hna]at he
         have:=keep_in ga hb he
         rw[has_iff.2 this]at h0a;cases h0a
        ·rw[if_neg hna,if_pos h0a]at he
         exact .inr he
      rcases hle' with e|hl
      ·subst e
       by_cases hya:yesW a' c=true
       ·exact sy.takes.mono a' a' b ga gb hle (yst a' ga hya)
       ·rw[if_neg hya]at he
        by_cases hna:noW a' c=true
        ·rw[if_pos hna]at he
         have:=keep_in ga hb he
         rw[has_iff.2 this]at h0a;cases h0a
        ·rw[if_neg hna,if_pos h0a]at he
         exact sy.takes.mono a' a' b ga gb hle he
      ·exact sy.takes.mono a a' b ga gb hle hl
     ·rw[if_neg h0b]
      by_cases h1b:hasV (domAt b c.b) 1=false
      ·rw[if_pos h1b]
       have h1a:hasV (domAt a c.b) 1=false:=by
        cases hh:hasV (domAt a c.b) 1 with
        |false=>rfl
        |true=>rw[has_iff.2 (hle.2 _ 1 hb.1 (has_iff.1 hh))]at h1b;cases h1b
       have hone: ∀y∈vals (domAt a c.b),y=0:=fun y hy=>by
        have h1:=(tr a ga).1 hta y hy
        have h2:y≠1:=fun e=>by rw[e]at hy;rw[has_iff.2 hy]at h1a;cases h1a
        omega
       have hv:vals (domAt a c.b)=[0]:=by
        obtain⟨x,hx⟩:=ga.ne hb.2
        exact up_ext (vals_up (ga.at_ hb.2).1) (List.pairwise_singleton _ _) fun y=>⟨fun hy=>List.mem_singleton.2 (hone y hy),fun hy=>by rw[List.mem_singleton.1 hy,←hone x hx];exact hx⟩
       have h0a: ¬hasV (domAt a c.b) 0=false:=fun e=>by
        have:=has_iff (x:=domAt a c.b) (v:=0)
        rw[e,hv]at this
        simp at this
       by_cases hya:yesW a c=true
       ·rw[if_pos hya]at he
        have:=keep_in ga hb he
        rw[has_iff.2 this]at h1a;cases h1a
       ·rw[if_neg hya]at he
        by_cases hna:noW a c=true
        ·rw[if_pos hna,(keep_same ga hb).2 hv]at he
         obtain rfl:=Option.some.inj he
         exact sn.takes.mono a a b ga gb hle (nst a ga hna)
        ·rw[if_neg hna,if_neg h0a,if_pos h1a]at he
         exact sn.takes.mono a a' b ga gb hle he
      ·rw[if_neg h1b]
       exact stay
  ·rw[if_neg htb]
   exact stay
 ·
  have hB:=hab c.b (List.mem_append_right _ (.head _))
  have hV: ∀u∈c.vars,domAt a u=domAt b u:=fun u hu=>hab u (List.mem_append_left _ hu)
  have ey:yesW b c=yesW a c:=by unfold yesW endsW;rw[terms_congr hV]
  have en:noW b c=noW a c:=by unfold noW endsW;rw[hvn,terms_congr hV]
  rw[ey,en,←hB]
  split
  ·rename_i ht
   rw[if_pos ht]at ha
   split
   ·rename_i hy
    rw[if_pos hy,keep_same ga hb]at ha
    rw[keep_same gb hb,←hB];exact ha
   ·rename_i hy
    rw[if_neg hy]at ha
    split
    ·rename_i hn
     rw[if_pos hn,keep_same ga hb]at ha
     rw[keep_same gb hb,←hB];exact ha
    ·rename_i hn
     rw[if_neg hn]at ha
     split
     ·rename_i h0
      rw[if_pos h0]at ha
      exact sy.stays a b ga gb ha hV
     ·rename_i h0
      rw[if_neg h0]at ha
      split
      ·rename_i h1
       rw[if_pos h1]at ha
       exact sn.stays a b ga gb ha hV
      ·rfl
  ·rfl
 ·have hv1:v∉c.vars:=fun hm=>hv (List.mem_append_left _ hm)
  have hv2:v≠c.b:=fun e=>hv (List.mem_append_right _ (e▸.head _))
  split at he
  ·split at he
   ·exact(keep_ok ga hb he).2.2.1 v h0 hv2
   ·split at he
    ·exact(keep_ok ga hb he).2.2.1 v h0 hv2
    ·split at he
     ·exact sy.off a out ga he v h0 hv1
     ·split at he
      ·exact sn.off a out ga he v h0 hv1
      ·obtain rfl:=Option.some.inj he;rfl
  ·obtain rfl:=Option.some.inj he;rfl
 ·
  have hB:=he c.b (List.mem_append_right _ (.head _))
  have hV: ∀u∈c.vars,vals (domAt e u)=[g u]:=fun u hu=>he u (List.mem_append_left _ hu)
  have py:=sy.point e ge g hV
  have pn:=sn.point e ge g hV
  have hhn:=held_not (c:=sumOf c) g h.yes.sum.ck h.yes.op h.small
  rw[hvn]at hhn
  have htr:=tr e ge
  rw[hB]at htr
  simp only[List.mem_singleton,forall_eq]at htr
  by_cases ht:truthR (domAt e c.b)=true
  ·have h01:=htr.1 ht
   rw[if_pos ht]
   have hsy:yesW e c=true→heldR c.op (sumG c.vars c.coefs g) c.rhs=true:=fun hy=>(py.1 (yst e ge hy))
   have hsn:noW e c=true→heldR c.op (sumG c.vars c.coefs g) c.rhs=false:=fun hn=>by
    have:=pn.1 (nst e ge hn)
    rw[hhn]at this
    have:=Bool.not_eq_true' _▸this
    exact this
   have e0:hasV (domAt e c.b) 0=false↔g c.b=1:=by
    have:=has_iff (x:=domAt e c.b) (v:=0)
    rw[hB,List.mem_singleton]at this
    rw[←Bool.not_eq_true,this]
    omega
   have e1:hasV (domAt e c.b) 1=false↔g c.b=0:=by
    have:=has_iff (x:=domAt e c.b) (v:=1)
    rw[hB,List.mem_singleton]at this
    rw[←Bool.not_eq_true,this]
    omega
   by_cases hy:yesW e c=true
   ·rw[if_pos hy,keep_same ge hb,hB,hsy hy]
    simp
    omega
   ·rw[if_neg hy]
    by_cases hn:noW e c=true
    ·rw[if_pos hn,keep_same ge hb,hB,hsn hn]
     simp
     omega
    ·rw[if_neg hn]
     by_cases h1:g c.b=1
     ·rw[if_pos (e0.2 h1),py]
      simp[h1]
      exact rfl
     ·have h2:g c.b=0:=by omega
      rw[if_neg (fun hh=>h1 (e0.1 hh)),if_pos (e1.2 h2),pn,hhn]
      simp[h2]
      exact rfl
  ·rw[if_neg ht]
   have: ¬(0≤g c.b∧g c.b≤1):=fun hh=>ht (htr.2 hh)
   simp[this]
theorem StepOK.guard {n:Nat}{us:List Int}{P Q:(Int→Int)→Prop}{f:Doms→Option Doms}{C:Doms→Bool}(h:StepOK n us P f)(hm: ∀a b,GoodD n a→GoodD n b→leD a b→C b=true→C a=true)
  (hl: ∀a b,GoodD n a→GoodD n b→(∀u∈us,domAt a u=domAt b u)→C a=C b) (hp: ∀e,GoodD n e→∀g:Int→Int,(∀u∈us,vals (domAt e u)=[g u])→(C e=true↔Q g)):StepOK n us (fun g=>Q g→P g) (fun d=>if C d=true then f d else some d):=by
 refine⟨⟨fun a a' ga he=> ?_,fun a a' b ga gb hle he=> ?_⟩,fun a b ga gb ha hab=> ?_,fun a out ga he v h0 hv=> ?_,fun e ge g he=> ?_,h.in'⟩
 ·split at he
  ·exact h.takes.less a a' ga he
  ·obtain rfl:=Option.some.inj he
   exact⟨ga,(orderD n).refl a⟩
 ·by_cases hc:C b=true
  ·rw[if_pos (hm a b ga gb hle hc)]at he
   rw[if_pos hc]
   exact h.takes.mono a a' b ga gb hle he
  ·rw[if_neg hc]
   refine⟨b,rfl,(orderD n).trans _ _ _ ?_ hle⟩
   split at he
   ·exact(h.takes.less a a' ga he).2
   ·exact Option.some.inj he▸(orderD n).refl a
 ·rw[←hl a b ga gb hab]
  split
  ·rename_i hc
   rw[if_pos hc]at ha
   exact h.stays a b ga gb ha hab
  ·rfl
 ·split at he
  ·exact h.off a out ga he v h0 hv
  ·obtain rfl:=Option.some.inj he;rfl
 ·have hq:=hp e ge g he
  by_cases hc:C e=true
  ·rw[if_pos hc,h.point e ge g he]
   exact⟨fun h _=>h,fun h=>h (hq.1 hc)⟩
  ·rw[if_neg hc]
   exact⟨fun _ h=>absurd (hq.2 h) hc,fun _=>rfl⟩
def cut2 (a b:Int)(d:Doms):Option Doms:=
 if a=b then some d else
 if domCut (domAt d a) (-1048576) (lastR (domAt d b))=[]∨domCut (domAt d b) (leastR (domAt d a)) 1048576=[]then none else
 some ((d.set a.toNat (domCut (domAt d a) (-1048576) (lastR (domAt d b)))).set b.toNat (domCut (domAt d b) (leastR (domAt d a)) 1048576))
theorem id_step {n:Nat}{us:List Int}{P:(Int→Int)→Prop}(hp: ∀g,P g)(hin: ∀u∈us,0≤u∧u.toNat<n):StepOK n us P some:=
 ⟨⟨fun a a' ga he=>by obtain rfl:=Option.some.inj he;exact⟨ga,(orderD n).refl a⟩,fun a a' b ga gb hle he=>by obtain rfl:=Option.some.inj he;exact⟨b,rfl,hle⟩⟩,fun _ _ _ _ _ _=>rfl,fun a out ga he v _ _=>by obtain rfl:=Option.some.inj he;rfl,fun _ _ g _=>⟨fun _=>hp g,fun _=>rfl⟩,hin⟩
theorem supp2 {n:Nat}{a b:Int}(hab:a≠b)(ha:0≤a∧a.toNat<n)(hb:0≤b∧b.toNat<n):SuppS n [a,b] (fun l=>decide (l.getD 0 0≤l.getD 1 0)) (cut2 a b):=by
 have two: ∀g:Int→Int,(decide ((([a,b]:List Int).map g).getD 0 0≤(([a,b]:List Int).map g).getD 1 0)=true)↔g a≤g b:=fun g=>by simp
 have ends: ∀d,GoodD n d→∀v:Int,0≤v∧v.toNat<n→DomOk (domAt d v)∧leastR (domAt d v)∈vals (domAt d v)∧lastR (domAt d v)∈vals (domAt d v)∧∀x∈vals (domAt d v),-1048576≤x∧x≤1048576∧leastR (domAt d v)≤x∧x≤lastR (domAt d v):=fun d gd v hv=>by
  obtain⟨h1,h2⟩:=gd.at_ hv.2
  have h3:=(gd.few.fine _ (domAt_mem (v:=v) (by rw[gd.len];exact hv.2))).val
  exact⟨h1,least_mem h1 h2,last_mem h1 h2,fun x hx=>⟨(h3 x hx).1,(h3 x hx).2,least_le h1 hx,le_last h1 hx⟩⟩
 have pick: ∀(P:Int→Prop) (x y:Int),∃g:Int→Int,g a=x∧g b=y:=fun _ x y=>⟨fun u=>if u=a then x else y,if_pos rfl,if_neg (Ne.symm hab)⟩
 have hin: ∀u∈[a,b],0≤u∧u.toNat<n:=fun u hu=>by
  rcases List.mem_cons.1 hu with rfl|hu
  ·exact ha
  ·rw[List.mem_singleton.1 hu];exact hb
 refine⟨fun d out gd he=> ?_,fun d gd he g hg=> ?_,hin,by simp⟩
 ·obtain⟨oa,la,ma,va⟩:=ends d gd a ha
  obtain⟨ob,lb,mb,vb⟩:=ends d gd b hb
  have hal:a.toNat<d.length:=by rw[gd.len];exact ha.2
  have hbl:b.toNat<d.length:=by rw[gd.len];exact hb.2
  unfold cut2 at he
  rw[if_neg hab]at he
  split at he
  ·cases he
  ·rename_i hne
   obtain rfl:=Option.some.inj he
   obtain⟨x1,x2⟩:=domCut_ok oa (-1048576) (lastR (domAt d b))
   obtain⟨y1,y2⟩:=domCut_ok ob (leastR (domAt d a)) 1048576
   generalize domCut (domAt d a) (-1048576) (lastR (domAt d b))=x at*
   generalize domCut (domAt d b) (leastR (domAt d a)) 1048576=y at*
   have hd1: ∀v,0≤v→domAt ((d.set a.toNat x).set b.toNat y) v=if v=b then y else if v=a then x else domAt d v:=fun v h0=>by
    rw[dom_set hb.1 (by rw[List.length_set];exact hbl) h0]
    split
    ·rfl
    ·rw[dom_set ha.1 hal h0]
   have s1:Sub (d.set a.toNat x) d:=sub_set fun z hz v hv=>by
    rw[domAt_some hal]at hz
    exact Option.some.inj hz▸((x2 v).1 hv).1
   have s2:Sub ((d.set a.toNat x).set b.toNat y) (d.set a.toNat x):=sub_set fun z hz v hv=>by
    rw[List.getElem?_set_ne (by omega),domAt_some hbl]at hz
    exact Option.some.inj hz▸((y2 v).1 hv).1
   have fx:Fine x:=(gd.few.fine _ (domAt_mem hal)).cut x1 fun v hv=>((x2 v).1 hv).1
   have fy:Fine y:=(gd.few.fine _ (domAt_mem hbl)).cut y1 fun v hv=>((y2 v).1 hv).1
   have hno: []∉(d.set a.toNat x).set b.toNat y:=fun hm=>by
    have h1: []∉d.set a.toNat x:=fun hm=>hne (.inl ((set_empty hal gd.some').1 hm))
    exact hne (.inr ((set_empty (by rw[List.length_set];exact hbl) h1).1 hm))
   refine⟨(GoodD.of_sub gd (Sub.trans s2 s1) (mem_set (mem_set gd.few.fine fx) fy) hno).1,fun v hv z=> ?_,fun v h0 hv=> ?_⟩
   ·rcases List.mem_cons.1 hv with rfl|hv
    ·rw[hd1 v ha.1,if_neg hab,if_pos rfl,x2]
     constructor
     ·rintro⟨h1,_,h2⟩
      obtain⟨g,g1,g2⟩:=pick (fun _=>True) z (lastR (domAt d b))
      refine⟨g,fun u hu=> ?_,(two g).2 (by omega),g1⟩
      rcases List.mem_cons.1 hu with rfl|hu
      ·rw[g1];exact h1
      ·rw[List.mem_singleton.1 hu,g2];exact mb
     ·rintro⟨g,g1,g2,rfl⟩
      have g2:=(two g).1 g2
      have h1:=g1 v (.head _)
      have h2:=g1 b (.tail _ (.head _))
      exact⟨h1,(va _ h1).1,by have:=vb _ h2;omega⟩
    ·obtain rfl:=List.mem_singleton.1 hv
     rw[hd1 v hb.1,if_pos rfl,y2]
     constructor
     ·rintro⟨h1,h2,_⟩
      obtain⟨g,g1,g2⟩:=pick (fun _=>True) (leastR (domAt d a)) z
      refine⟨g,fun u hu=> ?_,(two g).2 (by omega),g2⟩
      rcases List.mem_cons.1 hu with rfl|hu
      ·rw[g1];exact la
      ·rw[List.mem_singleton.1 hu,g2];exact h1
     ·rintro⟨g,g1,g2,rfl⟩
      have g2:=(two g).1 g2
      have h1:=g1 a (.head _)
      have h2:=g1 v (.tail _ (.head _))
      exact⟨h2,by have:=va _ h1;omega,(vb _ h2).2.1⟩
   ·have n1:v≠b:=fun e=>hv (by rw[e];exact .tail _ (.head _))
    have n2:v≠a:=fun e=>hv (by rw[e];exact .head _)
    rw[hd1 v h0,if_neg n1,if_neg n2]
 ·refine decide_eq_false fun hle=> ?_
  have hle:=(two g).1 (decide_eq_true hle)
  have h1:=hg a (.head _)
  have h2:=hg b (.tail _ (.head _))
  obtain⟨oa,la,ma,va⟩:=ends d gd a ha
  obtain⟨ob,lb,mb,vb⟩:=ends d gd b hb
  have v1:=va _ h1
  have v2:=vb _ h2
  have e1:=((domCut_ok oa (-1048576) (lastR (domAt d b))).2 (g a)).2 ⟨h1,by omega,by omega⟩
  have e2:=((domCut_ok ob (leastR (domAt d a)) 1048576).2 (g b)).2 ⟨h2,by omega,by omega⟩
  unfold cut2 at he
  rw[if_neg hab]at he
  split at he
  ·rename_i hh
   rcases hh with hh|hh
   ·rw[hh]at e1;cases e1
   ·rw[hh]at e2;cases e2
  ·cases he
theorem cut2_step {n:Nat}{a b:Int}(ha:0≤a∧a.toNat<n)(hb:0≤b∧b.toNat<n):StepOK n [a,b] (fun g=>g a≤g b) (cut2 a b):=by
 by_cases hab:a=b
 ·refine StepOK.congr (id_step (fun g=>by rw[hab];exact Int.le_refl _) fun u hu=> ?_) fun d _=>by unfold cut2;rw[if_pos hab]
  rcases List.mem_cons.1 hu with rfl|hu
  ·exact ha
  ·rw[List.mem_singleton.1 hu];exact hb
 ·exact(supp2 hab ha hb).step.iff fun g=>by simp
def aheadB (c:Con)(k:Nat)(d:Doms):Bool:=(List.range k).all (pairO d c)
def cutO (c:Con)(k:Nat)(d:Doms):Option Doms:=if aheadB c k d=true then cut2 (varAt c k) (varAt c (halfOf c+k)) d else some d
structure LexC (n:Nat)(c:Con):Prop where
 vin: ∀v∈c.vars,0≤v∧v.toNat<n
theorem pair_iff {n:Nat}{c:Con}(h:LexC n c){d:Doms}(gd:GoodD n d){j:Nat}(hj:j<halfOf c):pairO d c j=true↔varAt c j=varAt c (halfOf c+j)∨∃x,vals (domAt d (varAt c j))=[x]∧vals (domAt d (varAt c (halfOf c+j)))=[x]:=by
 have hh:=half_le c
 have o1:=gd.at_ (h.vin _ (varAt_mem (c:=c) (k:=j) (by omega))).2
 have o2:=gd.at_ (h.vin _ (varAt_mem (c:=c) (k:=halfOf c+j) (by omega))).2
 unfold pairO
 rw[knownB_iff o1.1 o2.1]
 refine or_congr_right ⟨?_,?_⟩
 ·rintro⟨h1,h2⟩
  obtain⟨x,hx⟩:=List.length_eq_one_iff.1 h1
  exact⟨x,hx,by rw[←h2,hx]⟩
 ·rintro⟨x,h1,h2⟩
  exact⟨by rw[h1];rfl,dom_ext o1.1 o2.1 (by rw[h1,h2])⟩
theorem cutO_step {n:Nat}{c:Con}(h:LexC n c){k:Nat}(hk:k<halfOf c):StepOK n c.vars (fun g=>(∀j,j<k→g (varAt c j)=g (varAt c (halfOf c+j)))→g (varAt c k)≤g (varAt c (halfOf c+k))) (cutO c k):=by
 have hh:=half_le c
 have m1: ∀j,j<halfOf c→varAt c j∈c.vars∧varAt c (halfOf c+j)∈c.vars:=fun j hj=>⟨varAt_mem (by omega),varAt_mem (by omega)⟩
 obtain⟨ha,hb⟩:=m1 k hk
 refine StepOK.guard (C:=aheadB c k) ((cut2_step (h.vin _ ha) (h.vin _ hb)).wide (fun u hu=> ?_) h.vin) (fun a b ga gb hle hc=> ?_) (fun a b ga gb hab=> ?_) (fun e ge g he=> ?_)
 ·rcases List.mem_cons.1 hu with rfl|hu
  ·exact ha
  ·rw[List.mem_singleton.1 hu];exact hb
 ·refine List.all_eq_true.2 fun j hj=> ?_
  have hj':=List.mem_range.1 hj
  have hjh:j<halfOf c:=by omega
  obtain⟨v1,v2⟩:=m1 j hjh
  have:=(pair_iff h gb hjh).1 (List.all_eq_true.1 hc j hj)
  refine(pair_iff h ga hjh).2 (this.imp id ?_)
  rintro⟨x,h1,h2⟩
  have key: ∀v∈c.vars,vals (domAt b v)=[x]→vals (domAt a v)=[x]:=fun v hv e=>by
   have hn:=h.vin v hv
   obtain⟨y,hy⟩:=ga.ne hn.2
   have hsub: ∀z∈vals (domAt a v),z=x:=fun z hz=>by
    have:=hle.2 v z hn.1 hz
    rw[e]at this
    exact List.mem_singleton.1 this
   exact up_ext (vals_up (ga.at_ hn.2).1) (List.pairwise_singleton _ _) fun z=>⟨fun hz=>List.mem_singleton.2 (hsub z hz),fun hz=>by rw[List.mem_singleton.1 hz,←hsub y hy];exact hy⟩
  exact⟨x,key _ v1 h1,key _ v2 h2⟩
 ·unfold aheadB
  rw[Bool.eq_iff_iff,List.all_eq_true,List.all_eq_true]
  refine forall_congr' fun j=>imp_congr_right fun hj=> ?_
  have hj':=List.mem_range.1 hj
  obtain⟨v1,v2⟩:=m1 j (by omega)
  unfold pairO
  rw[hab _ v1,hab _ v2]
 ·unfold aheadB
  rw[List.all_eq_true]
  refine forall_congr' fun j=> ?_
  rw[List.mem_range]
  refine imp_congr_right fun hj=> ?_
  obtain⟨v1,v2⟩:=m1 j (by omega)
  rw[pair_iff h ge (by omega),he _ v1,he _ v2]
  constructor
  ·rintro(e|⟨x,h1,h2⟩)
   ·rw[e]
   ·rw[(List.cons.inj h1).1,(List.cons.inj h2).1]
  ·exact fun e=> .inr ⟨_,rfl,by rw[e]⟩
theorem lex_ends {n:Nat}{c:Con}(h:LexC n c)(d0:Doms): ∀(N:Nat) (d:Doms) (R:Option Doms),Come leD (GoodD n) (cutO c) (List.range (halfOf c)) d0 d→iter (stepO c) N d=some R→Ends leD (GoodD n) (cutO c) (List.range (halfOf c)) d0 R:=by
 intro N
 induction N using Nat.strongRecOn with
 |_ N ih=>
  intro d R hd hR
  have hh:=half_le c
  have known: ∀k,k<halfOf c→pairO d c k=true→cut2 (varAt c k) (varAt c (halfOf c+k)) d=some d:=fun k hk hp=>by
   have v1:=h.vin _ (varAt_mem (c:=c) (k:=k) (by omega))
   have v2:=h.vin _ (varAt_mem (c:=c) (k:=halfOf c+k) (by omega))
   rcases (pair_iff h hd.fine hk).1 hp with e|⟨x,h1,h2⟩
   ·unfold cut2;rw[if_pos e]
   ·refine((cut2_step v1 v2).point d hd.fine (fun _=>x) fun u hu=> ?_).2 (Int.le_refl _)
    rcases List.mem_cons.1 hu with rfl|hu
    ·exact h1
    ·rw[List.mem_singleton.1 hu];exact h2
  have stay: ∀k,k<halfOf c→pairO d c k=true→cutO c k d=some d:=fun k hk hp=>by
   unfold cutO
   rw[known k hk hp,ite_self]
  by_cases hk:placeO d c=halfOf c
  ·have hst:stepO c d= .inl (some d):=by unfold stepO;rw[if_pos hk]
   obtain rfl:=iter_inl hR hst
   refine⟨hd,fun k hk2=> ?_⟩
   have hk2:=List.mem_range.1 hk2
   exact stay k hk2 (placeF_before (p:=pairO d c) (h:=halfOf c) (j:=k) (by unfold placeO at hk;omega))
  ·have hkl:placeO d c<halfOf c:=by have:=placeF_le (pairO d c) (halfOf c);unfold placeO at hk⊢;omega
   have hn:pairO d c (placeO d c)=false:=placeF_here hkl
   have hbf: ∀j,j<placeO d c→pairO d c j=true:=fun j hj=>placeF_before hj
   have hst:stepO c d=(if domCut (domAt d (varAt c (placeO d c))) (-1048576) (lastR (domAt d (varAt c (halfOf c+placeO d c))))=[]∨domCut (domAt d (varAt c (halfOf c+placeO d c))) (leastR (domAt d (varAt c (placeO d c)))) 1048576=[]then .inl none else
    if domCut (domAt d (varAt c (placeO d c))) (-1048576) (lastR (domAt d (varAt c (halfOf c+placeO d c))))=domAt d (varAt c (placeO d c))∧domCut (domAt d (varAt c (halfOf c+placeO d c))) (leastR (domAt d (varAt c (placeO d c)))) 1048576=domAt d (varAt c (halfOf c+placeO d c))then .inl (some d)else
    .inr ((d.set (varAt c (placeO d c)).toNat (domCut (domAt d (varAt c (placeO d c))) (-1048576) (lastR (domAt d (varAt c (halfOf c+placeO d c)))))).set (varAt c (halfOf c+placeO d c)).toNat (domCut (domAt d (varAt c (halfOf c+placeO d c))) (leastR (domAt d (varAt c (placeO d c)))) 1048576))):=by
    unfold stepO
    rw[if_neg hk]
   generalize placeO d c=k at*
   have v1:=h.vin _ (varAt_mem (c:=c) (k:=k) (by omega))
   have v2:=h.vin _ (varAt_mem (c:=c) (k:=halfOf c+k) (by omega))
   have hab:varAt c k≠varAt c (halfOf c+k):=fun e=>by
    rw[(pair_iff h hd.fine hkl).2 (.inl e)]at hn;cases hn
   have hah:aheadB c k d=true:=List.all_eq_true.2 fun j hj=>hbf j (List.mem_range.1 hj)
   have hcut:cutO c k d=cut2 (varAt c k) (varAt c (halfOf c+k)) d:=if_pos hah
   have htk:=(cutO_step h hkl).takes
   unfold cut2 at hcut
   rw[if_neg hab]at hcut
   by_cases e1:domCut (domAt d (varAt c k)) (-1048576) (lastR (domAt d (varAt c (halfOf c+k))))=[]∨domCut (domAt d (varAt c (halfOf c+k))) (leastR (domAt d (varAt c k))) 1048576=[]
   ·rw[if_pos e1]at hst hcut
    obtain rfl:=iter_inl hR hst
    exact hd.none (c:=k) (List.mem_range.2 hkl) htk hcut
   ·rw[if_neg e1]at hst hcut
    by_cases e2:domCut (domAt d (varAt c k)) (-1048576) (lastR (domAt d (varAt c (halfOf c+k))))=domAt d (varAt c k)∧domCut (domAt d (varAt c (halfOf c+k))) (leastR (domAt d (varAt c k))) 1048576=domAt d (varAt c (halfOf c+k))
    ·rw[if_pos e2]at hst
     obtain rfl:=iter_inl hR hst
     refine⟨hd,fun j hj=> ?_⟩
     have hj:=List.mem_range.1 hj
     by_cases hjk:j<k
     ·exact stay j hj (hbf j hjk)
     ·by_cases e:j=k
      ·subst e
       rw[hcut,e2.1,e2.2,setD_same (by rw[hd.fine.len];exact v1.2),setD_same (by rw[hd.fine.len];exact v2.2)]
      ·have:aheadB c j d=false:=by
        rw[←Bool.not_eq_true]
        intro ht
        have:=List.all_eq_true.1 ht k (List.mem_range.2 (by omega))
        rw[hn]at this;cases this
       unfold cutO
       rw[this];rfl
    ·rw[if_neg e2]at hst
     obtain⟨m,hm,hR2⟩:=iter_inr hR hst
     exact ih m hm _ R (hd.step (orderD n) (c:=k) (List.mem_range.2 hkl) htk hcut) hR2
open Classical in
noncomputable def lexO (c:Con)(d:Doms):Option Doms:=if h: ∃R:Option Doms,∃N,iter (stepO c) N d=some R then h.choose else none
theorem lexO_ans {c:Con}{d:Doms}{R:Option Doms}{N:Nat}(h:iter (stepO c) N d=some R):R=lexO c d:=by
 have hex: ∃R:Option Doms,∃N,iter (stepO c) N d=some R:=⟨R,N,h⟩
 obtain⟨M,hM⟩:=hex.choose_spec
 unfold lexO
 rw[dif_pos hex]
 exact iter_det h hM
theorem order_le: ∀(xs ys:List Int),xs.length=ys.length→(orderR xs ys≤0↔∀k,k<xs.length→(∀j,j<k→xs.getD j 0=ys.getD j 0)→xs.getD k 0≤ys.getD k 0)
 | [],[],_=>by simp[orderR]
 | [],_::_,h=>by simp at h
 |_::_,[],h=>by simp at h
 |x::xs,y::ys,h=>by
  rw[orderR]
  have ih:=order_le xs ys (by simpa using h)
  by_cases h1:x<y
  ·rw[if_pos h1]
   refine⟨fun _ k hk he=> ?_,fun _=>by omega⟩
   cases k with
   |zero=>simp;omega
   |succ k=>have:=he 0 (by omega);simp at this;omega
  ·rw[if_neg h1]
   by_cases h2:y<x
   ·rw[if_pos (by omega)]
    refine⟨fun h=>by omega,fun hh=> ?_⟩
    have:=hh 0 (by simp) (fun j hj=>by omega)
    simp at this;omega
   ·rw[if_neg (by omega)]
    have e:x=y:=by omega
    subst e
    rw[ih]
    constructor
    ·intro hh k hk he
     cases k with
     |zero=>simp
     |succ k=>
      have:=hh k (by simpa using hk) fun j hj=>by simpa using he (j+1) (by omega)
      simpa using this
    ·intro hh k hk he
     have:=hh (k+1) (by simpa using hk) fun j hj=>by
      cases j with
      |zero=>simp
      |succ j=>simpa using he j (by omega)
     simpa using this
theorem lex_step {n:Nat}{c:Con}(h:LexC n c)(hl:c.vars.length*8≤140737488355328)(heven:c.vars.length % 2=0):StepOK n c.vars (fun g=>orderR ((c.vars.map g).take (c.vars.length / 2)) ((c.vars.map g).drop (c.vars.length / 2))≤0) (lexO c):=by
 have hE: ∀d,GoodD n d→Ends leD (GoodD n) (cutO c) (List.range (halfOf c)) d (lexO c d):=fun d gd=>by
  obtain⟨R,N,h1,_⟩:=pruneO_ex (c:=c) (d:=d) ⟨hl,fun v hv=>by rw[gd.len];exact h.vin v hv⟩ gd.few.fine
  rw[if_neg gd.some']at h1
  rw[←lexO_ans h1]
  exact lex_ends h d N d R (Come.refl (orderD n) gd) h1
 refine(Ends.step hE (fun k hk=>cutO_step h (List.mem_range.1 hk)) h.vin).iff fun g=> ?_
 have hh:c.vars.length=halfOf c+halfOf c:=by unfold halfOf;omega
 have e:c.vars.length / 2=halfOf c:=rfl
 have x1:((c.vars.map g).take (halfOf c)).length=halfOf c:=by simp;omega
 have y1:((c.vars.map g).drop (halfOf c)).length=halfOf c:=by simp;omega
 have x2: ∀k,k<halfOf c→((c.vars.map g).take (halfOf c)).getD k 0=g (varAt c k):=fun k hk=>by
  unfold varAt
  rw[List.getD_eq_getElem?_getD,List.getD_eq_getElem?_getD,List.getElem?_take,if_pos hk,List.getElem?_map,List.getElem?_eq_getElem (by omega)];rfl
 have y2: ∀k,k<halfOf c→((c.vars.map g).drop (halfOf c)).getD k 0=g (varAt c (halfOf c+k)):=fun k hk=>by
  unfold varAt
  rw[List.getD_eq_getElem?_getD,List.getD_eq_getElem?_getD,List.getElem?_drop,List.getElem?_map,List.getElem?_eq_getElem (by omega)];rfl
 rw[e,order_le _ _ (by rw[x1,y1]),x1]
 constructor
 ·intro hp k hk he
  rw[x2 k hk,y2 k hk]
  exact hp k (List.mem_range.2 hk) fun j hj=>by
   have:=he j hj
   rwa[x2 j (by omega),y2 j (by omega)]at this
 ·intro hp k hk he
  have hk:=List.mem_range.1 hk
  have:=hp k hk fun j hj=>by rw[x2 j (by omega),y2 j (by omega)];exact he j hj
  rwa[x2 k hk,y2 k hk]at this
set_option maxRecDepth 8000
theorem FewD.smallD {d:Doms}(h:FewD d):SmallD d:=⟨h.small,fun x hx=>by have:=(h.fine x hx).len;omega⟩
theorem VarsU.few {d:Doms}(h:FewD d){vars:List Int}(hv:VarsU d vars):vars.length*24≤140737488355328:=by
 have:vars.length≤d.length:=by
  have h1:(vars.map Int.toNat).Nodup:=nodup_map hv.1 fun x hx y hy e=>by
   have:=(hv.2 x hx).1;have:=(hv.2 y hy).1;omega
  have h2:=nodup_sub h1 (b:=List.range d.length) fun k hk=>by
   obtain⟨v,hv2,rfl⟩:=List.mem_map.1 hk
   exact List.mem_range.2 (hv.2 v hv2).2
  simpa using h2
 have:=h.small
 omega
theorem uprune_few (d:Doms)(vars:List Int)(h:FewD d)(hv:VarsU d vars)(hne:vars≠[]):Spec Tryz.prog 29 false [doms d,.agg (cC (conU vars))] (pruneRes (prune8 d vars)):=by
 have:=uprune_spec d (conU vars) h.smallD h.valD.inb h.valD.len hv.2 (hv.few h)
 rw[show(conU vars).vars=vars from rfl,prune_eq h hv hne]at this
 exact this
theorem prune8_few (d:Doms)(vars:List Int)(h:FewD d)(hv:VarsU d vars):Spec Tryz.prog 37 false [doms d,.agg (cC (conU vars))] [.val (doms ((prune8 d vars).getD [])),.val (.bool (prune8 d vars).isSome)]:=
 prune8_spec d (conU vars) h.valD hv.2 (by have:=hv.few h;show vars.length*8≤_;omega)
theorem fine1 {a b:Int}(h:a≤b)(h1: -1048576≤a)(h2:b≤1048576):Fine [(a,b)]:=by
 have hv:vals [(a,b)]=rng a b:=by
  show rng a b++[]=_
  rw[List.append_nil]
 refine⟨⟨fun r hr=> ?_,by simp⟩,?_,?_⟩
 ·obtain rfl:=List.mem_singleton.1 hr;exact h
 ·rw[hv];intro v hm
  have:=mem_rng.1 hm
  omega
 ·rw[hv];simp[rng];omega
def tabG (n:Nat)(g:Int→Int):List Int:=(List.range n).map fun j:Nat=>g (j:Int)
theorem tab_len (n:Nat)(g:Int→Int):(tabG n g).length=n:=by simp[tabG]
theorem tab_at {n:Nat}{g:Int→Int}{v:Int}(h:0≤v∧v.toNat<n):atR (tabG n g) v=g v:=by
 unfold atR tabG
 rw[if_neg (by omega),List.getD_eq_getElem?_getD,List.getElem?_map,List.getElem?_range h.2]
 show g ((v.toNat:Nat):Int)=g v
 congr 1;omega
theorem tab_self {n:Nat}{a:List Int}(h:a.length=n):tabG n (atR a)=a:=by
 subst h
 refine List.ext_getElem (tab_len _ _) fun i h1 h2=> ?_
 simp only[tabG,List.getElem_map,List.getElem_range]
 unfold atR
 rw[if_neg (by omega)]
 simp[List.getD_eq_getElem?_getD,h2]
theorem picked_congr {vars a b:List Int}(h: ∀u∈vars,atR a u=atR b u):pickedR vars a=pickedR vars b:=List.map_congr_left h
theorem sumW_congr {vars coefs a b:List Int}(h: ∀u∈vars,atR a u=atR b u):sumW vars coefs a=sumW vars coefs b:=by
 unfold sumW
 have: ∀(l:List (Int×Int)) (n:Int),(∀p∈l,atR a p.1=atR b p.1)→l.foldl (fun n p=>IntKind.i64.wrap (n+IntKind.i64.wrap (p.2*atR a p.1))) n=l.foldl (fun n p=>IntKind.i64.wrap (n+IntKind.i64.wrap (p.2*atR b p.1))) n:=by
  intro l
  induction l with
  |nil=>intro n _;rfl
  |cons p l ih=>
   intro n hp
   rw[List.foldl_cons,List.foldl_cons,hp p (.head _)]
   exact ih _ fun q hq=>hp q (.tail _ hq)
 exact this _ _ fun p hp=>h _ (List.of_mem_zip hp).1
theorem uses_mem {c:Con}{u:Int}:u∈usesR c↔u∈c.vars∨c.kind=4∧u=c.b:=by
 unfold usesR
 rw[sortU_mem]
 split
 ·rename_i h;simp[h]
 ·rename_i h;simp[h]
theorem holds_congr {c:Con}{a b:List Int}(h: ∀u∈usesR c,atR a u=atR b u):holdsR c a=holdsR c b:=by
 have hv: ∀u∈c.vars,atR a u=atR b u:=fun u hu=>h u (uses_mem.2 (.inl hu))
 have e1:=picked_congr hv
 have e2:soR c a=soR c b:=by unfold soR;rw[sumW_congr hv]
 unfold holdsR holds6
 rw[e1,e2]
 by_cases hk:c.kind=4
 ·rw[h c.b (uses_mem.2 (.inr ⟨hk,rfl⟩))]
 ·simp only[if_neg hk]
theorem sumW_G {vars coefs a:List Int}{g:Int→Int}(hl:vars.length=coefs.length)(hck: ∀k∈coefs,CoefOk k)(hw:weightK coefs≤4611686018427388928)(ha: ∀u∈vars,atR a u=g u)(hb: ∀u∈vars,-1048576≤g u∧g u≤1048576):sumW vars coefs a=sumG vars coefs g:=by
 have key: ∀(l:List (Int×Int)) (n:Int),(∀p∈l,atR a p.1=g p.1∧(-1048576≤g p.1∧g p.1≤1048576)∧CoefOk p.2)→-4611686018427388928≤n-weightK (l.map (·.2))→n+weightK (l.map (·.2))≤4611686018427388928→
   l.foldl (fun n p=>IntKind.i64.wrap (n+IntKind.i64.wrap (p.2*atR a p.1))) n=n+(l.map fun p=>p.2*g p.1).sum:=by
  intro l
  induction l with
  |nil=>intro n _ _ _;simp
  |cons p l ih=>
   intro n hp h1 h2
   obtain⟨e,b,hk⟩:=hp p (.head _)
   have m:=mul_in p.2 (g p.1) b.1 b.2
   have hk2:=hk.2
   have hpos:=weightK_pos (l.map (·.2))
   have ew:weightK ((p::l).map (·.2))=absK p.2*1048576+weightK (l.map (·.2)):=by simp[weightK]
   rw[ew]at h1 h2
   have hab:=absK_pos p.2
   rw[List.foldl_cons,e,wrap_id (n:=p.2*g p.1) (by omega) (by omega),wrap_id (by omega) (by omega),ih _ (fun q hq=>hp q (.tail _ hq)) (by omega) (by omega)]
   simp only[List.map_cons,List.sum_cons]
   omega
 have e:(vars.zip coefs).map (·.2)=coefs:=List.map_snd_zip (by omega)
 have hp:=weightK_pos coefs
 unfold sumW sumG
 rw[key _ 0 (fun p hp=>⟨ha _ (List.of_mem_zip hp).1,hb _ (List.of_mem_zip hp).1,hck _ (List.of_mem_zip hp).2⟩) (by rw[e];omega) (by rw[e];omega),Int.zero_add]
theorem StepOK.iff' {n:Nat}{us:List Int}{P Q:(Int→Int)→Prop}{f:Doms→Option Doms}(h:StepOK n us P f)(hq: ∀g:Int→Int,(∀u∈us,-1048576≤g u∧g u≤1048576)→(P g↔Q g)):StepOK n us Q f:=by
 refine⟨h.takes,h.stays,h.off,fun e ge g he=>(h.point e ge g he).trans (hq g fun u hu=> ?_),h.in'⟩
 have hm:domAt e u∈e:=domAt_mem (by rw[ge.len];exact(h.in' u hu).2)
 exact(ge.few.fine _ hm).val _ (by rw[he u hu];exact .head _)
theorem nodup_full: ∀(l s:List Int),s.Nodup→(∀x∈s,x∈l)→l.length≤s.length→l.Nodup
 | [],_,_,_,_=> .nil
 |x::l,s,hs,hm,hl=>by
  have hx:x∉l:=fun hx=>by
   have:=hs.length_le_of_subset (l₂:=l) fun y hy=>by
    rcases List.mem_cons.1 (hm y hy)with rfl|h
    ·exact hx
    ·exact h
   simp at hl;omega
  have h2: ∀y∈s.erase x,y∈l:=fun y hy=>by
   have:=(hs.mem_erase_iff).1 hy
   exact(List.mem_cons.1 (hm y this.2)).resolve_left this.1
  have h3:=List.length_erase_le (l:=s) (a:=x)
  have h4:s.length-1≤(s.erase x).length:=by
   rw[List.length_erase];split<;>omega
  exact List.nodup_cons.2 ⟨hx,nodup_full l (s.erase x) (hs.erase x) h2 (by simp at hl;omega)⟩
theorem sort_same {l:List Int}:(sortU l).length=l.length↔l.Nodup:=by
 constructor
 ·intro h
  exact nodup_full l (sortU l) (up_nodup (sortU_up l)) (fun x hx=>(sortU_mem x l).1 hx) (by omega)
 ·intro h
  have h1:=(up_nodup (sortU_up l)).length_le_of_subset (l₂:=l) fun x hx=>(sortU_mem x l).1 hx
  have h2:=h.length_le_of_subset (l₂:=sortU l) fun x hx=>(sortU_mem x l).2 hx
  omega
noncomputable def oneO (c:Con)(d:Doms):Option Doms:=
 if c.kind=0 then linO c d else
 if c.kind=1 then prune8 d c.vars else
 if c.kind=4 then reifO c d else
 if c.kind=6 then lexO c d else
 keptR d (usesR c) fun t=>holdsR c (fillW d.length (usesR c) t (usesR c).length)
theorem sum_c {n:Nat}{d:Doms}{c:Con}(gd:GoodD n d)(h:SumOk d c):LinC n c:=by
 have hv:VarsU d c.vars:=⟨h.nod,h.fine.vin⟩
 exact⟨⟨h.fine.len,fun v hv=>by have:=h.fine.vin v hv;rwa[gd.len]at this,h.fine.ck,h.nod,h.big,hv.few gd.few⟩,h.pos,h.op⟩
theorem right_split {d:Doms}{c:Con}(hc:ConB c)(h:conR d c=0):(0≤c.kind∧c.kind≤6)∧VarsIn d c∧rightR d c=true∧∀u∈usesR c,0≤u∧u.toNat<d.length:=by
 obtain⟨h1,h2⟩:=con_in hc h
 unfold conR at h
 split at h
 ·cases h
 ·split at h
  ·cases h
  ·rename_i h3 h4
   refine⟨by omega,h1,h2,fun u hu=> ?_⟩
   have h4:(usesR c).all (inD d)=true:=by simpa using h4
   exact inD_iff.1 (List.all_eq_true.1 h4 u hu)
theorem kept_step {n:Nat}{c:Con}(hin: ∀u∈usesR c,0≤u∧u.toNat<n)(hne:usesR c≠[]):StepOK n (usesR c) (fun g=>holdsR c (tabG n g)=true) fun d=>keptR d (usesR c) fun t=>holdsR c (fillW d.length (usesR c) t (usesR c).length):=by
 have hnd:(usesR c).Nodup:=up_nodup (sortU_up _)
 refine((suppK (P:=fun t=>holdsR c (fillW n (usesR c) t (usesR c).length)) hnd hin hne).step.congr fun d gd=>by rw[gd.len]).iff fun g=> ?_
 rw[holds_congr (b:=tabG n g) fun u hu=> ?_]
 rw[tab_at (hin u hu)]
 exact fillW_at g hin hu
theorem one_step {n:Nat}{d:Doms}{c:Con}(gd:GoodD n d)(hc:ConB c)(h:conR d c=0):StepOK n (usesR c) (fun g=>(c.kind=4→0≤g c.b∧g c.b≤1)→holdsR c (tabG n g)=true) (oneO c):=by
 obtain⟨hk,hv,hr,hin⟩:=right_split hc h
 rw[gd.len]at hin
 have hpick: ∀g:Int→Int,pickedR c.vars (tabG n g)=c.vars.map g:=fun g=>List.map_congr_left fun u hu=>tab_at (hin u (uses_mem.2 (.inl hu)))
 have hvu: ∀u∈c.vars,u∈usesR c:=fun u hu=>uses_mem.2 (.inl hu)
 have hdl:=gd.few.small
 by_cases h0:c.kind=0
 ·have hs:=sum_c gd (sum_in hc h h0 gd.few.fine hdl)
  refine(((lin_step hs).wide hvu hin).congr fun d gd=>by unfold oneO;rw[if_pos h0]).iff' fun g hg=> ?_
  have hb:=hs.sum.big
  have:=absK_pos c.rhs
  unfold holdsR soR
  rw[if_pos h0,sumW_G hs.sum.vl hs.sum.ck (by omega) (fun u hu=>tab_at (hin u (hvu u hu))) fun u hu=>hg u (hvu u hu)]
  exact⟨fun h _=>h,fun h=>h fun e=>by omega⟩
 ·by_cases h1:c.kind=1
  ·have hm:0<c.vars.length∧c.vars.Nodup:=by
    unfold rightR at hr
    rw[if_neg h0,if_pos h1]at hr
    simp only[manyR,Bool.and_eq_true,decide_eq_true_eq]at hr
    exact hr.2
   refine(((supp8 (n:=n) ⟨hm.2,fun v hv=>hin v (hvu v hv)⟩ (List.ne_nil_of_length_pos hm.1)).step.wide hvu hin).congr fun d gd=>by unfold oneO;rw[if_neg h0,if_pos h1]).iff fun g=> ?_
   unfold holdsR
   rw[if_neg h0,if_pos h1,hpick,decide_eq_true_eq,decide_eq_true_eq,sort_same]
   exact⟨fun h _=>h,fun h=>h fun e=>by omega⟩
  ·by_cases h4:c.kind=4
   ·have hrf:=reif_in hc h h4 gd.few.fine hdl
    have hrc:ReifC n c:=by
     refine⟨sum_c gd hrf.sum,sum_c gd hrf.sumN,by have:=hrf.b;rwa[gd.len]at this,hrf.apart,?_⟩
     obtain⟨_,hbg⟩:=big_no (con_big h)
     have:=weightK_pos c.coefs
     omega
    have hu4: ∀u∈c.vars++[c.b],u∈usesR c:=fun u hu=>by
     rcases List.mem_append.1 hu with hu|hu
     ·exact hvu u hu
     ·exact uses_mem.2 (.inr ⟨h4,List.mem_singleton.1 hu⟩)
    refine(((reif_step hrc).wide hu4 hin).congr fun d gd=>by unfold oneO;rw[if_neg h0,if_neg h1,if_pos h4]).iff' fun g hg=> ?_
    have hs:=hrc.yes.sum
    have hb:weightK c.coefs+absK c.rhs≤4611686018427388928:=hs.big
    have:=absK_pos c.rhs
    have e1:sumW c.vars c.coefs (tabG n g)=sumG c.vars c.coefs g:=sumW_G hs.vl hs.ck (by omega) (fun u hu=>tab_at (hin u (hvu u hu))) fun u hu=>hg u (hvu u hu)
    have e2:atR (tabG n g) c.b=g c.b:=tab_at hrc.b
    unfold holdsR soR
    rw[if_neg h0,if_neg h1,if_neg (by omega),if_neg (by omega),if_pos h4,e1,e2]
    simp only[Bool.or_eq_true,Bool.and_eq_true,decide_eq_true_eq,Bool.not_eq_true']
    exact⟨fun h hh=>h (hh h4),fun h hh=>h fun _=>hh⟩
   ·by_cases h6:c.kind=6
    ·have hev:c.vars.length % 2=0:=by
      unfold rightR at hr
      rw[if_neg h0,if_neg h1,if_neg (by omega),if_neg (by omega),if_neg h4,if_neg (by omega)]at hr
      simp only[Bool.and_eq_true,decide_eq_true_eq]at hr
      exact hr.2
     refine(((lex_step (n:=n) ⟨fun v hv=>hin v (hvu v hv)⟩ hv.1 hev).wide hvu hin).congr fun d gd=>by unfold oneO;rw[if_neg h0,if_neg h1,if_neg h4,if_pos h6]).iff fun g=> ?_
     unfold holdsR holds6
     rw[if_neg h0,if_neg h1,if_neg (by omega),if_neg (by omega),if_neg h4,if_neg (by omega),hpick,decide_eq_true_eq]
     exact⟨fun h _=>h,fun h=>h fun e=>by omega⟩
    ·have hne:usesR c≠[]:=by
      have hpos:0<c.vars.length:=by
       unfold rightR at hr
       rw[if_neg h0,if_neg h1]at hr
       by_cases h2:c.kind=2
       ·rw[if_pos h2]at hr
        simp only[manyR,Bool.and_eq_true,decide_eq_true_eq]at hr
        exact hr.1.2.1
       ·rw[if_neg h2]at hr
        by_cases h3:c.kind=3
        ·rw[if_pos h3]at hr
         simp only[manyR,Bool.and_eq_true,decide_eq_true_eq]at hr
         omega
        ·rw[if_neg h3,if_neg h4,if_pos (by omega)]at hr
         simp only[sumR,Bool.and_eq_true,decide_eq_true_eq]at hr
         exact hr.1.2.1.1.2
      intro e
      have:=hvu _ (List.getElem_mem hpos)
      rw[e]at this;cases this
     refine((kept_step hin hne).congr fun d gd=>by unfold oneO;rw[if_neg h0,if_neg h1,if_neg h4,if_neg h6]).iff fun g=> ?_
     exact⟨fun h _=>h,fun h=>h fun e=>absurd e h4⟩
def prodL:List Nat→Nat
 | []=>1
 |n::l=>n*prodL l
theorem prodL_append: ∀(l m:List Nat),prodL (l++m)=prodL l*prodL m
 | [],m=>by simp[prodL]
 |n::l,m=>by rw[List.cons_append,prodL,prodL,prodL_append l m,Nat.mul_assoc]
theorem prodL_perm {l m:List Nat}(h:l.Perm m):prodL l=prodL m:=by
 induction h with
 |nil=>rfl
 |cons x _ ih=>rw[prodL,prodL,ih]
 |swap x y l=>rw[prodL,prodL,prodL,prodL,Nat.mul_left_comm]
 |trans _ _ h1 h2=>rw[h1,h2]
theorem prodL_sub (f:Nat→Nat)(hf: ∀i,1≤f i): ∀(n:Nat) (l:List Nat),l.Nodup→(∀i∈l,i<n)→prodL (l.map f)≤prodL ((List.range n).map f)
 |0,l,_,h=>by
  have:l=[]:=List.eq_nil_iff_forall_not_mem.2 fun i hi=>Nat.not_lt_zero _ (h i hi)
  rw[this];exact Nat.le_refl _
 |n+1,l,hn,h=>by
  rw[List.range_succ,List.map_append,prodL_append]
  have e:prodL (List.map f [n])=f n:=by simp[prodL]
  rw[e]
  by_cases hm:n∈l
  ·rw[prodL_perm ((List.perm_cons_erase hm).map f),List.map_cons,prodL,Nat.mul_comm]
   refine Nat.mul_le_mul_right _ (prodL_sub f hf n (l.erase n) (hn.erase n) fun i hi=> ?_)
   have h1:=(hn.mem_erase_iff).1 hi
   have:=h i h1.2
   omega
  ·have:=prodL_sub f hf n l hn fun i hi=>by
    have:=h i hi
    have:i≠n:=fun e=>hm (e▸hi)
    omega
   exact Nat.le_trans this (Nat.le_mul_of_pos_right _ (hf n))
def prodD (d:Doms):Nat:=prodL (d.map fun x=>(vals x).length)
theorem prodD_snoc (d:Doms)(x:List (Int×Int)):prodD (d++[x])=prodD d*(vals x).length:=by
 unfold prodD;rw[List.map_append,prodL_append];simp[prodL]
theorem growR_count (D:Doms): ∀n,n≤D.length→(growR D n).length=prodD (D.take n)
 |0,_=>rfl
 |n+1,hn=>by
  have ih:=growR_count D n (by omega)
  have: ∀(l:List (List Int)) (v:List Int),(l.flatMap fun a=>v.map fun v=>a++[v]).length=l.length*v.length:=by
   intro l v
   induction l with
   |nil=>simp
   |cons a l ih=>rw[List.flatMap_cons,List.length_append,ih,List.length_map,List.length_cons,Nat.succ_mul];omega
  rw[growR,this,ih,List.take_succ_eq_append_getElem (by omega),prodD_snoc,List.getD_eq_getElem?_getD,List.getElem?_eq_getElem (by omega)]
  rfl
theorem prodD_le {a b:Doms}(hl:a.length=b.length)(h: ∀(i:Nat) x y,a[i]? =some x→b[i]? =some y→(vals x).length≤(vals y).length):prodD a≤prodD b:=by
 induction a generalizing b with
 |nil=>
  cases b with
  |nil=>exact Nat.le_refl _
  |cons y b=>simp at hl
 |cons x a ih=>
  cases b with
  |nil=>simp at hl
  |cons y b=>exact Nat.mul_le_mul (h 0 x y rfl rfl) (ih (by simpa using hl) fun i u v hu hv=>h (i+1) u v hu hv)
theorem prodD_us {d:Doms}(hne: ∀x∈d,1≤(vals x).length){us:List Int}(hn:us.Nodup)(h0: ∀u∈us,0≤u∧u.toNat<d.length):prodD (us.map (domAt d))≤prodD d:=by
 let f:Nat→Nat:=fun i=>if i<d.length then(vals (d.getD i [])).length else 1
 have hf: ∀i,1≤f i:=fun i=>by
  simp only[f]
  by_cases h:i<d.length
  ·rw[if_pos h,List.getD_eq_getElem?_getD,List.getElem?_eq_getElem h];exact hne _ (List.getElem_mem h)
  ·rw[if_neg h];exact Nat.le_refl _
 have e1:prodD (us.map (domAt d))=prodL ((us.map Int.toNat).map f):=by
  unfold prodD
  rw[List.map_map,List.map_map]
  congr 1
  refine List.map_congr_left fun u hu=> ?_
  simp only[Function.comp,f]
  rw[if_pos (h0 u hu).2];rfl
 have e2:prodD d=prodL ((List.range d.length).map f):=by
  unfold prodD
  congr 1
  refine List.ext_getElem (by simp) fun i h1 h2=> ?_
  have hi:i<d.length:=by simpa using h1
  rw[List.getElem_map,List.getElem_map,List.getElem_range]
  simp only[f]
  rw[if_pos hi,List.getD_eq_getElem?_getD,List.getElem?_eq_getElem hi];rfl
 rw[e1,e2]
 refine prodL_sub f hf d.length _ (List.pairwise_map.2 (hn.imp_of_mem fun {x y} hx hy hne e=>hne (by have:=h0 x hx;have:=h0 y hy;omega))) fun i hi=> ?_
 obtain⟨u,hu,rfl⟩:=List.mem_map.1 hi
 exact(h0 u hu).2
theorem grow_few {d:Doms}(hne: ∀x∈d,1≤(vals x).length){us:List Int}(hn:us.Nodup)(h0: ∀u∈us,0≤u∧u.toNat<d.length)(m:Nat)(hm:m≤us.length):(growR (us.map (domAt d)) m).length≤prodD d:=by
 rw[growR_count _ m (by simpa using hm),←List.map_take]
 exact prodD_us hne (hn.sublist (List.take_sublist _ _)) fun u hu=>h0 u (List.mem_of_mem_take hu)
theorem GoodD.one {n:Nat}{d:Doms}(h:GoodD n d): ∀x∈d,1≤(vals x).length:=fun x hx=>by
 have hok:=(h.few.fine x hx).ok
 have:vals x≠[]:=fun e=>h.some' ((vals_ne hok).1 e▸hx)
 exact List.length_pos_iff.2 this
theorem prodD_leD {n:Nat}{a b:Doms}(ha:GoodD n a)(hb:GoodD n b)(h:leD a b):prodD a≤prodD b:=by
 refine prodD_le (ha.len.trans hb.len.symm) fun i x y hx hy=> ?_
 have hi:=(List.getElem?_eq_some_iff.1 hx).1
 have hj:=(List.getElem?_eq_some_iff.1 hy).1
 have h1:=(ha.few.fine x (List.mem_of_getElem? hx)).ok
 refine up_length_le (vals_up h1) fun v hv=> ?_
 have:=h.2 (i:Int) v (by omega) (by rw[dom_at hi,(List.getElem?_eq_some_iff.1 hx).2];exact hv)
 rwa[dom_at hj,(List.getElem?_eq_some_iff.1 hy).2]at this
end Go.Proofs.YtlcobmehnaeebaaGreat
namespace Go.Proofs.YtlcobmehnaeebaaGreat
open Go Go.Shelf Go.RowKit
def ly_laysSF_ren:Go.Shelf.Ren:=⟨fun|6=>122|15=>149|14=>148|28=>162|29=>163|20=>154|21=>155|22=>156|23=>157|24=>158|25=>159|26=>160|27=>161|46=>176|47=>177|48=>178|49=>179|50=>180|57=>185|n=>n,fun|22=>45|24=>47|25=>134|3=>3|39=>151|0=>0|53=>163|55=>165|4=>4|46=>157|45=>156|50=>64|5=>5|9=>9|66=>175|70=>179|76=>183|77=>184|n=>n,fun|n=>n⟩
theorem ly_laysSF:Go.Proofs.SlLaysF0.n6 Tryz.prog ly_laysSF_ren:= {
 mixed:=by kernel_rfl
 f6:=⟨Tryz.f122.name,by decide,Tryz.func122.trans (congrArg some (by kernel_rfl))⟩
 f14:=⟨Tryz.f148.name,by decide,Tryz.func148.trans (congrArg some (by kernel_rfl))⟩
 f15:=Tryz.func149.trans (congrArg some (by kernel_rfl))
 f20:=⟨Tryz.f154.name,by decide,Tryz.func154.trans (congrArg some (by kernel_rfl))⟩
 f21:=⟨Tryz.f155.name,by decide,Tryz.func155.trans (congrArg some (by kernel_rfl))⟩
 f22:=⟨Tryz.f156.name,by decide,Tryz.func156.trans (congrArg some (by kernel_rfl))⟩
 f23:=⟨Tryz.f157.name,by decide,Tryz.func157.trans (congrArg some (by kernel_rfl))⟩
 f24:=⟨Tryz.f158.name,by decide,Tryz.func158.trans (congrArg some (by kernel_rfl))⟩
 f25:=⟨Tryz.f159.name,by decide,Tryz.func159.trans (congrArg some (by kernel_rfl))⟩
 f26:=⟨Tryz.f160.name,by decide,Tryz.func160.trans (congrArg some (by kernel_rfl))⟩
 f27:=⟨Tryz.f161.name,by decide,Tryz.func161.trans (congrArg some (by kernel_rfl))⟩
 f28:=Tryz.func162.trans (congrArg some (by kernel_rfl))
 f29:=Tryz.func163.trans (congrArg some (by kernel_rfl))
 f46:=⟨Tryz.f176.name,by decide,Tryz.func176.trans (congrArg some (by kernel_rfl))⟩
 f47:=Tryz.func177.trans (congrArg some (by kernel_rfl))
 f48:=Tryz.func178.trans (congrArg some (by kernel_rfl))
 f49:=⟨Tryz.f179.name,by decide,Tryz.func179.trans (congrArg some (by kernel_rfl))⟩
 f50:=⟨Tryz.f180.name,by decide,Tryz.func180.trans (congrArg some (by kernel_rfl))⟩
 f57:=⟨Tryz.f185.name,by decide,Tryz.func185.trans (congrArg some (by kernel_rfl))⟩
 t0:=Tryz.underlying0
 a0:=Tryz.isAgg0
 z0:=Tryz.sizeOf0
 v0:=Tryz.zeroValue0
 t3:=Tryz.underlying3
 a3:=Tryz.isAgg3
 z3:=Tryz.sizeOf3
 v3:=Tryz.zeroValue3
 t4:=Tryz.underlying4
 a4:=Tryz.isAgg4
 z4:=Tryz.sizeOf4
 v4:=Tryz.zeroValue4
 t5:=Tryz.underlying5
 a5:=Tryz.isAgg5
 z5:=Tryz.sizeOf5
 v5:=Tryz.zeroValue5
 t9:=Tryz.underlying9
 a9:=Tryz.isAgg9
 z9:=Tryz.sizeOf9
 v9:=Tryz.zeroValue9
 t22:=Tryz.underlying45
 a22:=Tryz.isAgg45
 z22:=Tryz.sizeOf45
 v22:=Tryz.zeroValue45
 t25:=Tryz.underlying134
 a25:=Tryz.isAgg134
 z25:=Tryz.sizeOf134
 v25:=Tryz.zeroValue134
 t39:=Tryz.underlying151
 a39:=Tryz.isAgg151
 z39:=Tryz.sizeOf151
 v39:=Tryz.zeroValue151
 t45:=Tryz.underlying156
 a45:=Tryz.isAgg156
 z45:=Tryz.sizeOf156
 v45:=Tryz.zeroValue156
 t46:=Tryz.underlying157
 a46:=Tryz.isAgg157
 z46:=Tryz.sizeOf157
 v46:=Tryz.zeroValue157
 t50:=Tryz.underlying64
 a50:=Tryz.isAgg64
 z50:=Tryz.sizeOf64
 v50:=Tryz.zeroValue64
 t53:=Tryz.underlying163
 a53:=Tryz.isAgg163
 z53:=Tryz.sizeOf163
 v53:=Tryz.zeroValue163
 t55:=Tryz.underlying165
 a55:=Tryz.isAgg165
 z55:=Tryz.sizeOf165
 v55:=Tryz.zeroValue165
 t66:=Tryz.underlying175
 a66:=Tryz.isAgg175
 z66:=Tryz.sizeOf175
 v66:=Tryz.zeroValue175
 t70:=Tryz.underlying179
 a70:=Tryz.isAgg179
 z70:=Tryz.sizeOf179
 v70:=Tryz.zeroValue179
 t76:=Tryz.underlying183
 a76:=Tryz.isAgg183
 z76:=Tryz.sizeOf183
 v76:=Tryz.zeroValue183
 t77:=Tryz.underlying184
 a77:=Tryz.isAgg184
 z77:=Tryz.sizeOf184
 v77:=Tryz.zeroValue184 }
end Go.Proofs.YtlcobmehnaeebaaGreat
namespace Go.Proofs.YtlcobmehnaeebaaGreat
open Go Go.Shelf Go.RowKit
def ly_laysNm220_ren:Go.Shelf.Ren:=⟨fun|20=>138|n=>n,fun|22=>24|3=>3|4=>4|0=>0|n=>n,fun|n=>n⟩
theorem ly_laysNm220:Go.Proofs.Lays2.n20 Tryz.prog ly_laysNm220_ren:= {
 mixed:=by kernel_rfl
 f20:=Tryz.func138.trans (congrArg some (by kernel_rfl))
 t0:=Tryz.underlying0
 a0:=Tryz.isAgg0
 z0:=Tryz.sizeOf0
 v0:=Tryz.zeroValue0
 t3:=Tryz.underlying3
 a3:=Tryz.isAgg3
 z3:=Tryz.sizeOf3
 v3:=Tryz.zeroValue3
 t4:=Tryz.underlying4
 a4:=Tryz.isAgg4
 z4:=Tryz.sizeOf4
 v4:=Tryz.zeroValue4
 t22:=Tryz.underlying24
 a22:=Tryz.isAgg24
 z22:=Tryz.sizeOf24
 v22:=Tryz.zeroValue24
 i3:=by kernel_rfl }
open Go.RowKit Go.Lib Go.Sort in
theorem ly_slices_Compact_int (blk off cap:Nat)(zs:List Int)(w:World)(hH:Holds (Value.int .i64) w blk off zs.toArray)(hsz:zs.length≤9223372036854775807)(hcap:zs.length≤cap):
  Calls Tryz.prog 138 #[.slice (some ⟨blk,off,none⟩) zs.length cap] w fun e w'=>e= .returned (.slice (some ⟨blk,off,none⟩) (Lib.compact zs).length cap)∧∃q,w'=putRow (Value.int .i64) (Sort.ahead w q) blk off (Lib.compact zs++List.replicate (zs.length-(Lib.compact zs).length) 0).toArray:=Any.slices_Compact_int ly_laysNm220 blk off cap zs w hH hsz hcap
open Go.RowKit Go.Lib Go.Sort in
theorem ly_slices_Compact_int_empty (a:Option Addr)(cap:Nat)(w:World):
  Calls Tryz.prog 138 #[.slice a 0 cap] w fun e w'=>e= .returned (.slice a 0 cap)∧w'=w:=Any.slices_Compact_int_empty ly_laysNm220 a cap w
end Go.Proofs.YtlcobmehnaeebaaGreat
namespace Go.Proofs.YtlcobmehnaeebaaGreat
open Go Go.RowKit Go.Sort
set_option linter.unusedVariables false
set_option linter.unusedSimpArgs false
set_option maxRecDepth 8000
theorem put_ints {w:World}{g cap n:Nat}{e:TypeId}{cur:Array Value}{ts:List Int}(k:Nat)(hb:w.heap[g]? =some (.cells cur e (0,0)))(hk:k≤ts.length)(hcap:ts.length≤cap)(hmax:cap≤maxLen)(hsz:cur.size=cap*1){w':World}(hw:w'=putRow (Value.int .i64) (Sort.ahead w n) g 0 ts.toArray):
  w'.os=w.os∧w'.tape=w.tape∧w'.output=w.output∧w.heap.size≤w'.heap.size∧(∀b,b<w.heap.size→b≠g→w'.heap[b]? =w.heap[b]?)∧w'.ownsRow 0 e 1 (.slice (some ⟨g,0,none⟩) k cap) k ((ts.take k).map (Value.int .i64)):=by
 subst hw
 refine⟨rfl,rfl,rfl,by simp,fun b hb hne=> ?_,?_⟩
 ·simp[putRow,mapBlock,Sort.ahead,Array.getElem?_modify,Ne.symm hne]
 ·have hh:(putRow (Value.int .i64) (Sort.ahead w n) g 0 ts.toArray).heap[g]? =some (.cells (Go.Sort.putCells (Value.int .i64) 0 ts.toArray cur) e (0,0)):=by
   simp[putRow,mapBlock,Sort.ahead,Array.getElem?_modify,hb,onCells]
  have ht:=take_putCellsI cur ts (by omega)
  refine⟨by simp;omega,.inr ⟨g,cap,_,rfl,Nat.zero_le _,hh,by omega,hmax,by simp[Go.Sort.putCells,hsz],?_⟩⟩
  rw[Nat.mul_one,List.map_take,←ht,List.take_take,Nat.min_eq_left hk]
theorem pre_spec {f:FuncId} {fn:Func} {us:List Value} {cs:List Own} (l:List Int) (args:List PV) (l':List Int) (hl:l.length*8≤140737488355328) (hll:l'.length≤l.length) (hf:Tryz.prog.funcs[f]? =some fn) (hb:fn.body.isSome=true) (hn:(fn.name== "runtime.NumGoroutine")=false)
  (h0:l=[]→∀(w:World) (vs:List Value),L2 (Rep w fun _=>True) vs args→Calls Tryz.prog f (.slice none 0 0::vs).toArray w fun e w'=>e= .returned (.slice none 0 0)∧w'=w)
  (h1: ∀(g cap:Nat) (w:World) (vs:List Value),Holds (Value.int .i64) w g 0 l.toArray→g<w.heap.size→l.length≤cap→L2 (OwnRel w fun _ b=>b≠g∧Off us b) us cs→Apart3 us→(∀u g',u∈us→VB u g'→g'≠g)→L2 (Rep w fun b=>b≠g∧Off us b) vs args→
   Calls Tryz.prog f (.slice (some ⟨g,0,none⟩) l.length cap::vs).toArray w fun e w'=>e= .returned (.slice (some ⟨g,0,none⟩) l'.length cap)∧∃q,w'=putRow (Value.int .i64) (Sort.ahead w q) g 0 (l'++List.replicate (l.length-l'.length) 0).toArray):
  SpecP Tryz.prog f us cs 3 1 (l.map cI) args (l'.map cI):=by
 refine⟨⟨fn,hf,hb,hn⟩,fun w Z1 v0 vs ho hz hus hap hdis hvs=> ?_⟩
 obtain⟨xs,hrow,hx,_,_⟩:=ho
 rw[show(l.map cI).flatten=l.map (PV.int .i64)from flat1 _ l]at hx
 obtain rfl:=ints_rep hx
 rw[List.length_map]at hrow
 obtain⟨hln,hrow⟩:=hrow
 have hfin: ∀(w':World) (v:Value),w'.ownsRow 0 3 1 v l'.length (l'.map (Value.int .i64))→OwnRel w' (fun _ b=>Z1 b∧¬VB v b) v (.sl 3 1 true (l'.map cI)):=fun w' v h=>by
  refine⟨l'.map (Value.int .i64),by rw[List.length_map];exact h,?_,fun r hr=>by obtain⟨x,_,rfl⟩:=List.mem_map.1 hr;rfl,fun r hr p hp=>by obtain⟨x,_,rfl⟩:=List.mem_map.1 hr;simp[cI]at hp;rw[hp];rfl⟩
  rw[show(l'.map cI).flatten=l'.map (PV.int .i64)from flat1 _ _]
  exact rep_intsL _
 rcases hrow with ⟨rfl,hnil⟩|⟨g,cap,cur,rfl,_,hb,hcap,hmax,hsz,htk⟩
 ·obtain rfl:l=[]:=by simpa using hnil
  obtain rfl:l'=[]:=by cases l' with|nil=>rfl|cons _ _=>simp at hll
  refine(h0 rfl w vs (hvs.imp fun _ _ h=>h.mono fun _ _ _=>⟨trivial,rfl⟩)).mono ?_
  rintro e w' ⟨rfl,rfl⟩
  exact⟨_,rfl,rfl,rfl,rfl,Nat.le_refl _,fun _ _ _=>rfl,hfin _ _ ⟨rfl,.inl ⟨rfl,rfl⟩⟩,fun g hg=> .inl hg⟩
 ·have hg:g<w.heap.size:=(Array.getElem?_eq_some_iff.1 hb).1
  have hvb: ∀b,VB (.slice (some ⟨g,0,none⟩) l.length cap) b↔b=g:=fun b=>by simp[VB,vblock];exact eq_comm
  rw[Nat.mul_one]at htk
  have hZ: ∀b,(¬VB (.slice (some ⟨g,0,none⟩) l.length cap) b∧Off us b)→b≠g∧Off us b:=fun b h=>⟨fun e=>h.1 ((hvb b).2 e),h.2⟩
  refine(h1 g cap w vs (holds_of_blockI hb htk) hg (by simpa using hcap) (hus.imp fun u c h=>own_to h fun b hb=>hZ b hb) hap (fun u g' hu hv e=>hdis u g' hu hv ((hvb g').2 e)) (hvs.imp fun _ _ h=>h.mono fun b hb _=>⟨hZ b hb,rfl⟩)).mono ?_
  rintro e w' ⟨rfl,q,hw⟩
  have htl:(l'++List.replicate (l.length-l'.length) (0:Int)).length=l.length:=by simp;omega
  obtain⟨a1,a2,a3,a4,a5,a6⟩:=put_ints (ts:=l'++List.replicate (l.length-l'.length) 0) l'.length hb (by omega) (by rw[htl];simpa using hcap) hmax hsz hw
  rw[List.take_left]at a6
  exact⟨_,rfl,a1,a2,a3,a4,fun b hb hn=>a5 b hb fun e=>hn ((hvb b).2 e),hfin _ _ a6,fun g' hg'=> .inl ((hvb g').2 (by simpa[VB,vblock,eq_comm]using hg'))⟩
theorem compact_spec (l:List Int)(hl:l.length*8≤140737488355328):SpecP Tryz.prog 138 [] [] 3 1 (l.map cI) [] ((Lib.compact l).map cI):=by
 have hle:(Lib.compact l).length≤l.length:=by
  unfold Lib.compact Lib.compactUpTo
  rw[List.length_map]
  exact Nat.le_trans (List.length_filter_le _ _) (by simp)
 refine pre_spec l [] (Lib.compact l) hl hle Tryz.func138 rfl rfl (fun h w vs hvs=> ?_) (fun g cap w vs hH hg hc _ _ _ hvs=> ?_)
 ·cases hvs
  exact ly_slices_Compact_int_empty none 0 w
 ·cases hvs
  exact ly_slices_Compact_int g 0 cap l w hH (by omega) hc
theorem compact_up {l:List Int}(h:l.Pairwise (· ≤ ·)):Up (Lib.compact l)∧∀x,x∈Lib.compact l↔x∈l:=by
 have hget: ∀j,j<l.length→l.toArray[j]! =l.getD j 0:=fun j hj=>by
  rw[List.getD_eq_getElem?_getD,List.getElem?_eq_getElem hj]
  simp[hj]
 have hle: ∀i j,i≤j→j<l.length→l.getD i 0≤l.getD j 0:=fun i j hij hj=>by
  rw[List.getD_eq_getElem?_getD,List.getD_eq_getElem?_getD,List.getElem?_eq_getElem hj,List.getElem?_eq_getElem (by omega)]
  by_cases e:i=j
  ·subst e;exact Int.le_refl _
  ·exact List.pairwise_iff_getElem.1 h i j (by omega) hj (by omega)
 have key: ∀m,m≤l.length→Up (Lib.compactUpTo l.toArray m)∧(∀x,x∈Lib.compactUpTo l.toArray m↔∃j,j<m∧l.getD j 0=x):=by
  intro m
  induction m with
  |zero=>intro _;exact⟨by simp[Lib.compactUpTo,Up],by simp[Lib.compactUpTo]⟩
  |succ m ih=>
   intro hm
   obtain⟨h1,h2⟩:=ih (by omega)
   rw[Lib.compactUpTo_succ]
   by_cases hk:Lib.keeps l.toArray m=true
   ·rw[if_pos hk,hget m (by omega)]
    refine⟨List.pairwise_append.2 ⟨h1,List.pairwise_singleton _ _,fun x hx y hy=> ?_⟩,fun x=> ?_⟩
    ·obtain⟨j,hj,rfl⟩:=(h2 x).1 hx
     rw[List.mem_singleton.1 hy]
     have e1:=hle j (m-1) (by omega) (by omega)
     have e2:=hle (m-1) m (by omega) (by omega)
     simp only[Lib.keeps,decide_eq_true_eq]at hk
     have hne:l.toArray[m]! ≠l.toArray[m-1]! :=hk.resolve_left (by omega)
     rw[hget m (by omega),hget (m-1) (by omega)]at hne
     omega
    ·rw[List.mem_append,h2,List.mem_singleton]
     constructor
     ·rintro(⟨j,hj,e⟩|rfl)
      ·exact⟨j,by omega,e⟩
      ·exact⟨m,by omega,rfl⟩
     ·rintro⟨j,hj,e⟩
      by_cases hjm:j=m
      ·subst hjm;exact .inr e.symm
      ·exact .inl ⟨j,by omega,e⟩
   ·rw[if_neg hk,List.append_nil]
    refine⟨h1,fun x=> ?_⟩
    rw[h2]
    constructor
    ·rintro⟨j,hj,e⟩;exact⟨j,by omega,e⟩
    ·rintro⟨j,hj,e⟩
     by_cases hjm:j=m
     ·subst hjm
      simp only[Lib.keeps,decide_eq_true_eq,not_or,ne_eq,Classical.not_not]at hk
      have:=hk.2
      rw[hget j (by omega),hget (j-1) (by omega)]at this
      exact⟨j-1,by omega,by rw[←this];exact e⟩
     ·exact⟨j,by omega,e⟩
 obtain⟨h1,h2⟩:=key l.length (Nat.le_refl _)
 refine⟨h1,fun x=> ?_⟩
 rw[show Lib.compact l=Lib.compactUpTo l.toArray l.length from rfl,h2]
 constructor
 ·rintro⟨j,hj,rfl⟩
  rw[List.getD_eq_getElem?_getD,List.getElem?_eq_getElem hj]
  exact List.getElem_mem hj
 ·intro hx
  obtain⟨j,hj,rfl⟩:=List.getElem_of_mem hx
  exact⟨j,hj,by rw[List.getD_eq_getElem?_getD,List.getElem?_eq_getElem hj];rfl⟩
theorem compact_sort (l:List Int):Lib.compact (sortI l)=sortU l:=by
 have hs:(sortI l).Pairwise (· ≤ ·):=by
  have:=List.pairwise_mergeSort (le:=fun x y:Int=>decide (x≤y)) (fun a b c h1 h2=>by simp at h1 h2⊢;omega) (fun a b=>by simp;omega) l
  exact this.imp fun h=>by simpa using h
 obtain⟨h1,h2⟩:=compact_up hs
 refine up_ext h1 (sortU_up l) fun x=> ?_
 rw[h2,sortU_mem]
 exact(List.mergeSort_perm l _).mem_iff
theorem muses_spec (c:Con)(hc:ConB c):Spec Tryz.prog 98 false [.agg (cC c)] [.own 3 1 ((usesR c).map cI)]:=by
 refine Spec.body Tryz.func98 rfl rfl rfl fun w0 Z0=> ?_
 obtain⟨h1,h2,h3,h4⟩:=hc
 unfold usesR
 have hll:((if c.kind=4 then c.vars++[c.b]else c.vars):List Int).length*8≤140737488355328:=by
  split
  ·simp;omega
  ·omega
 have fin: ∀(l:List Int),l.length*8≤140737488355328→(sortI l).length*8≤140737488355328:=fun l h=>by
  rw[show(sortI l).length=l.length from List.length_mergeSort ..];exact h
 repeat(refine .A ?_;conv=>whnf)
 refine .C (clonei_spec c.vars (by omega)) ?_
 repeat(refine .A ?_;conv=>whnf)
 refine T.cd rfl (fun hk=> ?_) (fun hk=> ?_)
 ·have hk:c.kind=4:=hk
  rw[if_pos hk]at hll⊢
  have hf:=fin _ hll
  repeat(refine .A ?_;conv=>whnf)
  refine .V ?_
  refine J.aI rfl rfl rfl rfl rfl rfl rfl rfl rfl rfl rfl rfl rfl rfl rfl rfl rfl rfl rfl (by omega) ?_
  repeat(refine .A ?_;conv=>whnf)
  refine J.cm rfl rfl rfl rfl rfl rfl rfl rfl rfl (sort_specM (c.vars++[c.b]) hll) rfl rfl rfl ?_
  repeat(refine .A ?_;conv=>whnf)
  refine J.cp (cs2:=[]) (qs:=[]) [] rfl rfl rfl rfl rfl rfl rfl rfl (compact_spec _ hf) trivial rfl rfl rfl rfl rfl rfl ?_
  rw[compact_sort]
  repeat(refine .A ?_;conv=>whnf)
  exact⟨_,.o rfl rfl rfl (fun _=> .inl rfl) (by simp) .nil⟩
 ·have hk: ¬c.kind=4:=hk
  rw[if_neg hk]at hll⊢
  have hf:=fin _ hll
  repeat(refine .A ?_;conv=>whnf)
  refine J.cm rfl rfl rfl rfl rfl rfl rfl rfl rfl (sort_specM c.vars hll) rfl rfl rfl ?_
  repeat(refine .A ?_;conv=>whnf)
  refine J.cp (cs2:=[]) (qs:=[]) [] rfl rfl rfl rfl rfl rfl rfl rfl (compact_spec _ hf) trivial rfl rfl rfl rfl rfl rfl ?_
  rw[compact_sort]
  repeat(refine .A ?_;conv=>whnf)
  exact⟨_,.o rfl rfl rfl (fun _=> .inl rfl) (by simp) .nil⟩
end Go.Proofs.YtlcobmehnaeebaaGreat
namespace Go.Proofs.YtlcobmehnaeebaaGreat
open Go Go.RowKit
set_option linter.unusedVariables false
set_option linter.unusedSimpArgs false
def cmpL:Int→List Int→List Int
 |_,[]=>[]
 |x,y::l=>if y=x then cmpL x l else y::cmpL y l
theorem cmpL_up: ∀(l:List Int) (x:Int),(x::l).Pairwise (· ≤ ·)→Up (x::cmpL x l)∧∀z,z∈x::cmpL x l↔z∈x::l
 | [],x,_=>⟨List.pairwise_singleton _ _,fun z=>Iff.rfl⟩
 |y::l,x,h=>by
  have h1:=List.pairwise_cons.1 h
  have hxy:=h1.1 y (.head _)
  rw[cmpL]
  by_cases e:y=x
  ·subst e
   rw[if_pos rfl]
   obtain⟨a,b⟩:=cmpL_up l y h1.2
   refine⟨a,fun z=> ?_⟩
   rw[b z]
   simp
  ·rw[if_neg e]
   obtain⟨a,b⟩:=cmpL_up l y h1.2
   refine⟨List.pairwise_cons.2 ⟨fun z hz=> ?_,a⟩,fun z=> ?_⟩
   ·rcases List.mem_cons.1 hz with rfl|hz
    ·omega
    ·have:=(List.pairwise_cons.1 a).1 z hz;omega
   ·rw[List.mem_cons,b z,List.mem_cons (a:=z) (b:=x)]
theorem packG_cmp: ∀(l:List Int) (o:List (Int×Int)) (lo x:Int),(x::l).Pairwise (· ≤ ·)→l.foldl packS (o++[(lo,x)])=o++packF lo x (cmpL x l)
 | [],o,lo,x,_=>rfl
 |y::l,o,lo,x,h=>by
  have h1:=List.pairwise_cons.1 h
  have hxy:=h1.1 y (.head _)
  rw[List.foldl_cons,packS_snoc,cmpL]
  by_cases e:y=x
  ·subst e
   rw[if_pos (Int.le_refl _),if_pos rfl]
   exact packG_cmp l o lo y h1.2
  ·rw[if_neg (by omega),if_neg e,packF]
   by_cases e2:y=x+1
   ·rw[if_pos (by omega),if_pos e2]
    exact packG_cmp l o lo y h1.2
   ·rw[if_neg (by omega),if_neg e2,packG_cmp l (o++[(lo,x)]) y y h1.2,List.append_assoc];rfl
theorem sortI_pair (l:List Int):(sortI l).Pairwise (· ≤ ·):=by
 have:=List.pairwise_mergeSort (le:=fun x y:Int=>decide (x≤y)) (fun a b c h1 h2=>by simp at h1 h2⊢;omega) (fun a b=>by simp;omega) l
 exact this.imp fun h=>by simpa using h
theorem packG_sort (l:List Int):packG (sortI l)=pack (sortU l):=by
 have hs:=sortI_pair l
 have hm: ∀z,z∈sortI l↔z∈l:=fun z=>(List.mergeSort_perm l _).mem_iff
 cases h:sortI l with
 |nil=>
  have:sortU l=[]:=List.eq_nil_iff_forall_not_mem.2 fun z hz=>by
   have:=(hm z).2 ((sortU_mem z l).1 hz)
   rw[h]at this;cases this
  rw[this];rfl
 |cons x t=>
  rw[h]at hs
  obtain⟨a,b⟩:=cmpL_up t x hs
  have e:sortU l=x::cmpL x t:=up_ext (sortU_up l) a fun z=>by rw[sortU_mem,b z,←h,hm]
  rw[e]
  show t.foldl packS (packS [] x)=_
  rw[packS_nil]
  exact packG_cmp t [] x x hs
theorem domOfP_any {l:List Int}(hv: ∀v∈l,-1048576≤v∧v≤1048576)(hn:l.length≤4096):domOfP l=(pack (sortU l),0):=by
 have hv2: ∀v∈sortU l,-1048576≤v∧v≤1048576:=fun v h=>hv v ((sortU_mem v l).1 h)
 have hln:=sortU_length l
 have hf:Fine (pack (sortU l)):=packU_fine (sortU_up l) hv2 (by omega)
 unfold domOfP
 rw[packG_sort,sizeU_eq hf,vals_pack (sortU_up l),if_pos (List.all_eq_true.2 fun v hm=>by simpa[valueB]using hv v hm),if_neg (by omega)]
def rowIn (d:Doms)(vars r:List Int):Bool:=(vars.zip r).all fun p=>hasV (domAt d p.1) p.2
def rowsP (d:Doms)(c:Con):List (List Int):=c.rows.filter (rowIn d c.vars)
def colL (rows:List (List Int))(i:Nat):List Int:=rows.map fun r=>r.getD i 0
def tabGo (rows:List (List Int)):List Int→Nat→Doms→Doms
 | [],_,out=>out
 |v::vs,i,out=>tabGo rows vs (i+1) (out.set v.toNat (domOfP (colL rows i)).1)
def tabO (d:Doms)(c:Con):Option Doms:=if []∈d then none else if rowsP d c=[]then none else some (tabGo (rowsP d c) c.vars 0 d)
theorem tabGo_len (rows:List (List Int)): ∀(vs:List Int) (i:Nat) (out:Doms),(tabGo rows vs i out).length=out.length
 | [],_,_=>rfl
 |v::vs,i,out=>by rw[tabGo,tabGo_len rows vs];simp
theorem tabGo_at (rows:List (List Int)): ∀(vs:List Int) (i:Nat) (out:Doms),vs.Nodup→(∀v∈vs,0≤v∧v.toNat<out.length)→∀k:Nat,
  ((k:Int)∉vs→(tabGo rows vs i out)[k]? =out[k]?)∧∀j,vs[j]? =some (k:Int)→(tabGo rows vs i out)[k]? =some (domOfP (colL rows (i+j))).1
 | [],i,out,_,_,k=>⟨fun _=>rfl,fun j hj=>by simp at hj⟩
 |v::vs,i,out,hn,h0,k=>by
  have hn2:=List.nodup_cons.1 hn
  have hv:=h0 v (.head _)
  obtain⟨h1,h2⟩:=tabGo_at rows vs (i+1) (out.set v.toNat (domOfP (colL rows i)).1) hn2.2 (fun u hu=>by rw[List.length_set];exact h0 u (.tail _ hu)) k
  rw[tabGo]
  refine⟨fun hk=> ?_,fun j hj=> ?_⟩
  ·have hne:v≠(k:Int):=fun e=>hk (by rw[e];exact .head _)
   rw[h1 fun h=>hk (.tail _ h),List.getElem?_set_ne (by omega)]
  ·cases j with
   |zero=>
    simp at hj
    rw[h1 (by rw[←hj];exact hn2.1)]
    have:v.toNat=k:=by omega
    rw[this,List.getElem?_set_self (by rw[←this];exact hv.2)];rfl
   |succ j=>
    rw[h2 j (by simpa using hj)]
    congr 4;omega
theorem zip_all {vars r:List Int}{p:Int→Int→Bool}(hl:r.length=vars.length):((vars.zip r).all fun q=>p q.1 q.2)=true↔∀(j:Nat) v,vars[j]? =some v→p v (r.getD j 0)=true:=by
 rw[List.all_eq_true]
 constructor
 ·intro h j v hj
  have hlt:=(List.getElem?_eq_some_iff.1 hj).1
  have hr:r[j]? =some (r.getD j 0):=by rw[List.getD_eq_getElem?_getD,List.getElem?_eq_getElem (by omega)];rfl
  exact h (v,r.getD j 0) (List.mem_of_getElem? (i:=j) (List.getElem?_zip_eq_some.2 ⟨hj,hr⟩))
 ·rintro h ⟨v,x⟩ hm
  obtain⟨j,hj⟩:=List.getElem?_of_mem hm
  rw[List.getElem?_zip_eq_some]at hj
  have:=h j v hj.1
  rw[List.getD_eq_getElem?_getD,hj.2]at this
  exact this
theorem tab_kept {n:Nat}{d:Doms}{c:Con}(gd:GoodD n d)(hc:ConB c)(h:conR d c=0)(hk:c.kind=2):oneO c d=tabO d c:=by
 obtain⟨_,hv,hr,hin⟩:=right_split hc h
 have hu:usesR c=sortU c.vars:=by unfold usesR;rw[if_neg (by omega)]
 have hrr:c.vars.Nodup∧(∀r∈c.rows,r.length=c.vars.length∧∀x∈r,-1048576≤x∧x≤1048576)∧c.rows.length≤1024:=by
  unfold rightR at hr
  rw[if_neg (by omega),if_neg (by omega),if_pos hk]at hr
  simp only[manyR,rowsR,Bool.and_eq_true,decide_eq_true_eq,List.all_eq_true]at hr
  refine⟨hr.1.2.2,fun r hrm=> ?_,hr.2.2⟩
  have:=hr.2.1 r hrm
  simp only[rowOK,valueB,Bool.and_eq_true,decide_eq_true_eq,List.all_eq_true]at this
  exact⟨this.1,fun x hx=>by have:=this.2 x hx;omega⟩
 obtain⟨hnod,hrow,hfew⟩:=hrr
 have hnd:(usesR c).Nodup:=up_nodup (sortU_up _)
 have hmem: ∀u,u∈usesR c↔u∈c.vars:=fun u=>by rw[hu];exact sortU_mem u _
 have hP: ∀f:Int→Int,holdsR c (fillW d.length (usesR c) ((usesR c).map f) (usesR c).length)=true↔c.vars.map f∈c.rows:=fun f=>by
  have hpk:pickedR c.vars (fillW d.length (usesR c) ((usesR c).map f) (usesR c).length)=c.vars.map f:=List.map_congr_left fun v hv=>fillW_at f hin ((hmem v).2 hv)
  unfold holdsR
  rw[if_neg (by omega),if_neg (by omega),if_pos hk,hpk,List.any_eq_true]
  constructor
  ·rintro⟨r,h1,h2⟩;rw[←of_decide_eq_true h2];exact h1
  ·exact fun h1=>⟨_,h1,decide_eq_true rfl⟩
 have hri: ∀r∈c.rows,rowIn d c.vars r=true↔∀(j:Nat) v,c.vars[j]? =some v→r.getD j 0∈vals (domAt d v):=fun r hrm=>by
  unfold rowIn
  rw[zip_all (p:=fun v x=>hasV (domAt d v) x) (hrow r hrm).1]
  exact forall_congr' fun j=>forall_congr' fun v=>imp_congr_right fun _=>has_iff
 have hsupp: ∀v∈c.vars,∀x,SuppK d (usesR c) (fun t=>holdsR c (fillW d.length (usesR c) t (usesR c).length)) v x↔∃r∈rowsP d c,r.getD (c.vars.idxOf v) 0=x:=fun v hv x=>by
  have hiv:c.vars.idxOf v<c.vars.length:=List.idxOf_lt_length_iff.2 hv
  constructor
  ·rintro⟨f,h1,h2,rfl⟩
   have h2:=(hP f).1 h2
   refine⟨c.vars.map f,List.mem_filter.2 ⟨h2,(hri _ h2).2 fun j v hj=> ?_⟩,?_⟩
   ·rw[List.getD_eq_getElem?_getD,List.getElem?_map,hj]
    exact h1 v ((hmem v).2 (List.mem_of_getElem? hj))
   ·rw[List.getD_eq_getElem?_getD,List.getElem?_map,List.getElem?_eq_getElem hiv,List.getElem_idxOf];rfl
  ·rintro⟨r,hr,rfl⟩
   obtain⟨hrm,hro⟩:=List.mem_filter.1 hr
   have hro:=(hri r hrm).1 hro
   refine⟨fun u=>r.getD (c.vars.idxOf u) 0,fun u hu=> ?_,(hP _).2 ?_,rfl⟩
   ·have hm:=(hmem u).1 hu
    refine hro (c.vars.idxOf u) u ?_
    rw[List.getElem?_eq_getElem (List.idxOf_lt_length_iff.2 hm),List.getElem_idxOf]
   ·have:c.vars.map (fun u=>r.getD (c.vars.idxOf u) 0)=r:=by
     refine List.ext_getElem (by rw[List.length_map,(hrow r hrm).1]) fun j h1 h2=> ?_
     have hj:j<c.vars.length:=by simpa using h1
     rw[List.getElem_map,hnod.idxOf_getElem j hj,List.getD_eq_getElem?_getD,List.getElem?_eq_getElem h2];rfl
    rw[this];exact hrm
 have hcol: ∀j,j<c.vars.length→(domOfP (colL (rowsP d c) j)).1=pack (sortU (colL (rowsP d c) j)):=fun j hj=>by
  have h1: ∀x∈colL (rowsP d c) j,-1048576≤x∧x≤1048576:=fun x hx=>by
   obtain⟨r,hr,rfl⟩:=List.mem_map.1 hx
   have hrm:=(List.mem_filter.1 hr).1
   have hl:=(hrow r hrm).1
   rw[List.getD_eq_getElem?_getD,List.getElem?_eq_getElem (by omega)]
   exact(hrow r hrm).2 _ (List.getElem_mem _)
  have h2:(colL (rowsP d c) j).length≤4096:=by
   have:(rowsP d c).length≤c.rows.length:=List.length_filter_le _ _
   simp only[colL,List.length_map];omega
  rw[domOfP_any h1 h2]
 have hat:=tabGo_at (rowsP d c) c.vars 0 d hnod hv.2
 have hdat: ∀v∈c.vars,∃y,(tabGo (rowsP d c) c.vars 0 d)[v.toNat]? =some y∧DomOk y∧∀x,x∈vals y↔∃r∈rowsP d c,r.getD (c.vars.idxOf v) 0=x:=fun v hvm=>by
  have hiv:c.vars.idxOf v<c.vars.length:=List.idxOf_lt_length_iff.2 hvm
  have h0:=hv.2 v hvm
  have e:((v.toNat:Nat):Int)=v:=by omega
  have h3:=(hat v.toNat).2 (c.vars.idxOf v) (by rw[e,List.getElem?_eq_getElem hiv,List.getElem_idxOf])
  rw[Nat.zero_add,hcol _ hiv]at h3
  refine⟨_,h3,pack_ok (sortU_up _),fun x=> ?_⟩
  rw[vals_pack (sortU_up _),sortU_mem]
  unfold colL
  rw[List.mem_map]
 unfold oneO tabO
 rw[if_neg (by omega),if_neg (by omega),if_neg (by omega),if_neg (by omega),if_neg gd.some']
 unfold keptR
 rw[if_neg gd.some']
 have hpos:c.vars≠[]:=fun e=>by
  unfold rightR at hr
  rw[if_neg (by omega),if_neg (by omega),if_pos hk]at hr
  simp only[manyR,Bool.and_eq_true,decide_eq_true_eq]at hr
  have:=hr.1.2.1
  rw[e]at this;simp at this
 rw[kept_eq (out:=tabGo (rowsP d c) c.vars 0 d) hnd hin (tabGo_len _ _ _ _) (fun x hx=> ?_) (fun v hvm x=> ?_) (fun i hi=>(hat i).1 fun hm=>hi ((hmem _).2 hm))]
 ·unfold toldO
  by_cases hr0:rowsP d c=[]
  ·rw[if_pos hr0,if_pos]
   obtain⟨v,hvm⟩:=List.exists_mem_of_ne_nil _ hpos
   obtain⟨y,hy,hok,hx⟩:=hdat v hvm
   have:y=[]:=(vals_ne hok).1 (List.eq_nil_iff_forall_not_mem.2 fun x hxm=>by
    obtain⟨r,hr,_⟩:=(hx x).1 hxm
    rw[hr0]at hr;cases hr)
   exact this▸List.mem_of_getElem? hy
  ·rw[if_neg hr0,if_neg]
   intro hm
   obtain⟨k,hk2⟩:=List.getElem?_of_mem hm
   by_cases hkv:(k:Int)∈c.vars
   ·obtain⟨y,hy,hok,hx⟩:=hdat _ hkv
    rw[Int.toNat_natCast,hk2]at hy
    obtain rfl:=Option.some.inj hy
    obtain⟨r,hr⟩:=List.exists_mem_of_ne_nil _ hr0
    have:=(hx _).2 ⟨r,hr,rfl⟩
    cases this
   ·rw[(hat k).1 hkv]at hk2
    exact gd.some' (List.mem_of_getElem? hk2)
 ·obtain⟨k,hk2⟩:=List.getElem?_of_mem hx
  by_cases hkv:(k:Int)∈c.vars
  ·obtain⟨y,hy,hok,_⟩:=hdat _ hkv
   rw[Int.toNat_natCast,hk2]at hy
   exact Option.some.inj hy▸hok
  ·rw[(hat k).1 hkv]at hk2
   exact(gd.few.fine x (List.mem_of_getElem? hk2)).ok
 ·have hvc:=(hmem v).1 hvm
  obtain⟨y,hy,_,hx⟩:=hdat v hvc
  have:domAt (tabGo (rowsP d c) c.vars 0 d) v=y:=by
   unfold domAt
   rw[List.getD_eq_getElem?_getD,hy];rfl
  rw[this,hx,hsupp v hvc]
theorem dom_low {x:Int×Int}{a:List (Int×Int)}(h:DomOk (x::a)){v:Int}(hv:v∈vals a):x.2+2≤v:=by
 obtain⟨s,hs,h4,h5⟩:=mem_vals.1 hv
 have:=(List.pairwise_cons.1 h.2).1 s hs
 omega
theorem meet_ok: ∀(n:Nat) (a b:List (Int×Int)),a.length+b.length≤n→DomOk a→DomOk b→DomOk (meetR a b)∧(∀r∈meetR a b,∃s∈a,s.1≤r.1∧r.2≤s.2)∧(∀r∈meetR a b,∃s∈b,s.1≤r.1∧r.2≤s.2)∧∀v,v∈vals (meetR a b)↔v∈vals a∧v∈vals b
 |_,[],b,_,_,_=>by rw[meetR_l];exact⟨⟨by simp,.nil⟩,by simp,by simp,by simp[vals]⟩
 |_,x::a,[],_,_,_=>by rw[meetR_r];exact⟨⟨by simp,.nil⟩,by simp,by simp,by simp[vals]⟩
 |0,x::a,y::b,hn,_,_=>by simp at hn
 |n+1,x::a,y::b,hn,ha,hb=>by
  have hx:=ha.1 x (.head _)
  have hy:=hb.1 y (.head _)
  have hpa:=(List.pairwise_cons.1 ha.2).1
  have hpb:=(List.pairwise_cons.1 hb.2).1
  rw[meetR_cons]
  have key:DomOk (if x.2<y.2 then meetR a (y::b)else meetR (x::a) b)∧(∀r∈(if x.2<y.2 then meetR a (y::b)else meetR (x::a) b),(∃s∈x::a,s.1≤r.1∧r.2≤s.2)∧(∃s∈y::b,s.1≤r.1∧r.2≤s.2)∧min x.2 y.2+2≤r.1)∧
    ∀v,v∈vals (if x.2<y.2 then meetR a (y::b)else meetR (x::a) b)↔(v∈vals (x::a)∧v∈vals (y::b))∧min x.2 y.2<v:=by
   by_cases hlt:x.2<y.2
   ·rw[if_pos hlt]
    obtain⟨h1,h2,h3,h4⟩:=meet_ok n a (y::b) (by simp at hn⊢;omega) ha.tail hb
    refine⟨h1,fun r hr=> ?_,fun v=> ?_⟩
    ·obtain⟨s,hs,h5,h6⟩:=h2 r hr
     have:=hpa s hs
     exact⟨⟨s,.tail _ hs,h5,h6⟩,h3 r hr,by omega⟩
    ·rw[h4,vals_cons x a,List.mem_append,mem_rng]
     constructor
     ·rintro⟨h5,h6⟩
      have:=dom_low ha h5
      exact⟨⟨.inr h5,h6⟩,by omega⟩
     ·rintro⟨⟨h5|h5,h6⟩,h7⟩
      ·omega
      ·exact⟨h5,h6⟩
   ·rw[if_neg hlt]
    obtain⟨h1,h2,h3,h4⟩:=meet_ok n (x::a) b (by simp at hn⊢;omega) ha hb.tail
    refine⟨h1,fun r hr=> ?_,fun v=> ?_⟩
    ·obtain⟨s,hs,h5,h6⟩:=h3 r hr
     have:=hpb s hs
     exact⟨h2 r hr,⟨s,.tail _ hs,h5,h6⟩,by omega⟩
    ·rw[h4,vals_cons y b,List.mem_append,mem_rng]
     constructor
     ·rintro⟨h5,h6⟩
      have:=dom_low hb h6
      exact⟨⟨h5,.inr h6⟩,by omega⟩
     ·rintro⟨⟨h5,h6|h6⟩,h7⟩
      ·omega
      ·exact⟨h5,h6⟩
  generalize (if x.2<y.2 then meetR a (y::b)else meetR (x::a) b)=t at*
  obtain⟨t1,t2,t3⟩:=key
  have hmem: ∀v,v≤min x.2 y.2→(v∈vals (x::a)∧v∈vals (y::b)↔max x.1 y.1≤v):=fun v hv=>by
   rw[vals_cons,vals_cons,List.mem_append,List.mem_append,mem_rng,mem_rng]
   constructor
   ·rintro⟨h5|h5,h6|h6⟩
    ·omega
    ·have:=dom_low hb h6;omega
    ·have:=dom_low ha h5;omega
    ·have:=dom_low ha h5;omega
   ·intro h5
    exact⟨.inl (by omega),.inl (by omega)⟩
  by_cases hc:max x.1 y.1≤min x.2 y.2
  ·rw[if_pos hc]
   refine⟨⟨fun r hr=> ?_,List.pairwise_cons.2 ⟨fun r hr=> ?_,t1.2⟩⟩,fun r hr=> ?_,fun r hr=> ?_,fun v=> ?_⟩
   ·rcases List.mem_cons.1 hr with rfl|hr
    ·exact hc
    ·exact t1.1 r hr
   ·have:=(t2 r hr).2.2
    simp only;omega
   ·rcases List.mem_cons.1 hr with rfl|hr
    ·exact⟨x,.head _,by simp only;omega,by simp only;omega⟩
    ·exact(t2 r hr).1
   ·rcases List.mem_cons.1 hr with rfl|hr
    ·exact⟨y,.head _,by simp only;omega,by simp only;omega⟩
    ·exact(t2 r hr).2.1
   ·rw[List.singleton_append,vals_cons,List.mem_append,mem_rng,t3]
    by_cases hv:v≤min x.2 y.2
    ·rw[hmem v hv]
     simp only
     omega
    ·simp only
     constructor
     ·rintro(h5|h5)
      ·omega
      ·exact h5.1
     ·exact fun h5=> .inr ⟨h5,by omega⟩
  ·rw[if_neg hc,List.nil_append]
   refine⟨t1,fun r hr=>(t2 r hr).1,fun r hr=>(t2 r hr).2.1,fun v=> ?_⟩
   rw[t3]
   constructor
   ·exact fun h=>h.1
   ·intro h
    refine⟨h,Classical.byContradiction fun hv=> ?_⟩
    have:=(hmem v (by omega)).1 h
    omega
theorem meetD_ok {a b:List (Int×Int)}(ha:DomOk a)(hb:DomOk b):DomOk (meetR a b)∧∀v,v∈vals (meetR a b)↔v∈vals a∧v∈vals b:=
 ⟨(meet_ok _ a b (Nat.le_refl _) ha hb).1,(meet_ok _ a b (Nat.le_refl _) ha hb).2.2.2⟩
def joinS (out:List (Int×Int))(x:Int×Int):List (Int×Int):=match out.getLast? with
 |none=>out++[x]
 |some r=>if x.1≤r.2+1 then out.dropLast++[(r.1,max r.2 x.2)]else out++[x]
def joinG (l:List (Int×Int)):List (Int×Int):=l.foldl joinS []
theorem joinS_nil (x:Int×Int):joinS [] x=[x]:=rfl
theorem joinS_snoc (o:List (Int×Int))(r x:Int×Int):joinS (o++[r]) x=if x.1≤r.2+1 then o++[(r.1,max r.2 x.2)]else o++[r]++[x]:=by
 unfold joinS
 rw[List.getLast?_append]
 simp
theorem joinG_snoc (l:List (Int×Int))(x:Int×Int):joinG (l++[x])=joinS (joinG l) x:=by simp[joinG]
theorem snocInd {α:Type}{P:List α→Prop}(h0:P [])(h1: ∀l x,P l→P (l++[x]))(l:List α):P l:=by
 have key: ∀l:List α,P l.reverse:=by
  intro l
  induction l with
  |nil=>exact h0
  |cons x l ih=>rw[List.reverse_cons];exact h1 _ _ ih
 have:=key l.reverse
 rwa[List.reverse_reverse]at this
theorem joinG_len (l:List (Int×Int)):(joinG l).length≤l.length:=by
 refine snocInd (P:=fun l=>(joinG l).length≤l.length) (by simp[joinG]) (fun l x ih=> ?_) l
 ·show(joinG (l++[x])).length≤(l++[x]).length
  rw[joinG_snoc]
  rcases List.eq_nil_or_concat (joinG l)with h|⟨o,r,h⟩
  ·rw[h,joinS_nil];simp
  ·rw[h,List.concat_eq_append,joinS_snoc]
   rw[h,List.concat_eq_append]at ih
   split<;>simp at ih⊢ <;>omega
theorem join_ok: ∀(l:List (Int×Int)),(∀r∈l,r.1≤r.2)→l.Pairwise (fun r s=>r.1≤s.1)→DomOk (joinG l)∧(∀r∈joinG l,∃s∈l,r.1=s.1)∧∀v,v∈vals (joinG l)↔∃r∈l,r.1≤v∧v≤r.2:=by
 intro l
 refine snocInd (P:=fun l=>(∀r∈l,r.1≤r.2)→l.Pairwise (fun r s=>r.1≤s.1)→DomOk (joinG l)∧(∀r∈joinG l,∃s∈l,r.1=s.1)∧∀v,v∈vals (joinG l)↔∃r∈l,r.1≤v∧v≤r.2) (fun _ _=>⟨⟨by simp[joinG],.nil⟩,by simp[joinG],by simp[joinG,vals]⟩) (fun l x ih=> ?_) l
 ·intro h1 h2
  have hp:=List.pairwise_append.1 h2
  obtain⟨i1,i2,i3⟩:=ih (fun r hr=>h1 r (List.mem_append_left _ hr)) hp.1
  have hx:=h1 x (List.mem_append_right _ (.head _))
  have hle: ∀r∈joinG l,r.1≤x.1:=fun r hr=>by
   obtain⟨s,hs,e⟩:=i2 r hr
   rw[e];exact hp.2.2 s hs x (.head _)
  have hmem: ∀v,(∃r∈l++[x],r.1≤v∧v≤r.2)↔v∈vals (joinG l)∨(x.1≤v∧v≤x.2):=fun v=>by
   rw[i3]
   constructor
   ·rintro⟨r,hr,h⟩
    rcases List.mem_append.1 hr with hr|hr
    ·exact .inl ⟨r,hr,h⟩
    ·rw[List.mem_singleton.1 hr]at h;exact .inr h
   ·rintro(⟨r,hr,h⟩|h)
    ·exact⟨r,List.mem_append_left _ hr,h⟩
    ·exact⟨x,List.mem_append_right _ (.head _),h⟩
  rw[joinG_snoc]
  rcases List.eq_nil_or_concat (joinG l)with h|⟨o,r,h⟩
  ·rw[h]at hmem⊢
   rw[joinS_nil]
   refine⟨⟨by simp;omega,List.pairwise_singleton _ _⟩,fun r hr=>⟨x,List.mem_append_right _ (.head _),by rw[List.mem_singleton.1 hr]⟩,fun v=> ?_⟩
   rw[hmem]
   simp[vals,mem_rng]
  ·rw[h,List.concat_eq_append]at i1 i2 hle hmem⊢
   rw[joinS_snoc]
   obtain⟨a1,a2⟩:=i1
   have hpo:=List.pairwise_append.1 a2
   have hr:=a1 r (List.mem_append_right _ (.head _))
   have hrx:=hle r (List.mem_append_right _ (.head _))
   have vs: ∀(o:List (Int×Int)) (v:Int),v∈vals (o++[r])↔v∈vals o∨(r.1≤v∧v≤r.2):=fun o v=>by simp[vals,mem_rng]
   by_cases hc:x.1≤r.2+1
   ·rw[if_pos hc]
    refine⟨⟨fun s hs=> ?_,List.pairwise_append.2 ⟨hpo.1,List.pairwise_singleton _ _,fun s hs t ht=> ?_⟩⟩,fun s hs=> ?_,fun v=> ?_⟩
    ·rcases List.mem_append.1 hs with hs|hs
     ·exact a1 s (List.mem_append_left _ hs)
     ·rw[List.mem_singleton.1 hs];simp only;omega
    ·rw[List.mem_singleton.1 ht]
     exact hpo.2.2 s hs r (.head _)
    ·rcases List.mem_append.1 hs with hs|hs
     ·obtain⟨t,ht,e⟩:=i2 s (List.mem_append_left _ hs)
      exact⟨t,List.mem_append_left _ ht,e⟩
     ·obtain⟨t,ht,e⟩:=i2 r (List.mem_append_right _ (.head _))
      exact⟨t,List.mem_append_left _ ht,by rw[List.mem_singleton.1 hs];exact e⟩
    ·rw[hmem,vs]
     have:v∈vals (o++[(r.1,max r.2 x.2)])↔v∈vals o∨(r.1≤v∧v≤max r.2 x.2):=by simp[vals,mem_rng]
     rw[this]
     constructor
     ·rintro(h5|h5)
      ·exact .inl (.inl h5)
      ·by_cases h6:v≤r.2
       ·exact .inl (.inr ⟨h5.1,h6⟩)
       ·exact .inr (by omega)
     ·rintro((h5|h5)|h5)
      ·exact .inl h5
      ·exact .inr (by omega)
      ·exact .inr (by omega)
   ·rw[if_neg hc]
    refine⟨⟨fun s hs=> ?_,List.pairwise_append.2 ⟨a2,List.pairwise_singleton _ _,fun s hs t ht=> ?_⟩⟩,fun s hs=> ?_,fun v=> ?_⟩
    ·rcases List.mem_append.1 hs with hs|hs
     ·exact a1 s hs
     ·rw[List.mem_singleton.1 hs];exact hx
    ·rw[List.mem_singleton.1 ht]
     rcases List.mem_append.1 hs with hs|hs
     ·have:=hpo.2.2 s hs r (.head _);omega
     ·rw[List.mem_singleton.1 hs];omega
    ·rcases List.mem_append.1 hs with hs|hs
     ·obtain⟨t,ht,e⟩:=i2 s hs
      exact⟨t,List.mem_append_left _ ht,e⟩
     ·exact⟨x,List.mem_append_right _ (.head _),by rw[List.mem_singleton.1 hs]⟩
    ·rw[hmem]
     simp[vals,mem_rng,or_assoc]
end Go.Proofs.YtlcobmehnaeebaaGreat
namespace Go.Proofs.YtlcobmehnaeebaaGreat
open Go Go.RowKit Go.Sort
set_option linter.unusedVariables false
set_option linter.unusedSimpArgs false
set_option maxRecDepth 8000
def RB:Type:= {r:Int×Int // -2097152≤r.1∧r.1≤2097152}
def rb0:RB:=⟨(0,0),by decide,by decide⟩
instance:Inhabited RB:=⟨rb0⟩
def encRB (x:RB):List Value:=[.int .i64 x.1.1,.int .i64 x.1.2]
def cfRB (x y:RB):Int:=x.1.1-y.1.1
theorem ltRB (x y:RB):ltOf cfRB x y=decide (x.1.1<y.1.1):=by
 unfold ltOf cfRB
 by_cases h:x.1.1<y.1.1
 ·simp[h];omega
 ·simp[h];omega
theorem swoRB:SWO (ltOf cfRB) where
 irrefl x:=by rw[ltRB];simp
 trans x y z h1 h2:=by rw[ltRB]at *;simp at *;omega
 ntrans x y z h1 h2:=by rw[ltRB]at *;simp at *;omega
theorem cmpRB (x y:RB)(W:World):Calls Tryz.prog 123 #[.agg (encRB x).toArray,.agg (encRB y).toArray] W fun e w'=>e= .returned (.int .i64 (cfRB x y))∧∃q os',w'=grow (W.drewN q) os':=by
 have hw:IntKind.i64.wrap (x.1.1-y.1.1)=x.1.1-y.1.1:=wrap_id (by have:=x.2;have:=y.2;omega) (by have:=x.2;have:=y.2;omega)
 unfold encRB cfRB
 go_enter Tryz.func123,Tryz.ntmps123
 go_wp2
 go_ret
 exact⟨rfl,0,_,by rw[alloc_eq_grow,alloc_eq_grow,grow_grow];rfl⟩
theorem flatRB (l:List RB):(flatK encRB 2 l.toArray).toList=(l.map encRB).flatten:=by
 have key: ∀(l:List RB) (t:Nat),t<l.length*2→((l.map encRB).flatten)[t]? =some (encRB l[t / 2]!)[t % 2]! :=by
  intro l
  induction l with
  |nil=>intro t h;simp at h
  |cons x l ih=>
   intro t h
   match t with
   |0=>rfl
   |1=>rfl
   |t+2=>
    rw[List.map_cons,List.flatten_cons,show(encRB x)=[.int .i64 x.1.1,.int .i64 x.1.2]from rfl]
    rw[show∀(a b:Value) (m:List Value),([a,b]++m)[t+2]? =m[t]? from fun _ _ _=>rfl,ih t (by simp at h;omega)]
    rw[show(t+2) / 2=t / 2+1 by omega,show(t+2) % 2=t % 2 by omega]
    rfl
 have hlen:((l.map encRB).flatten).length=l.length*2:=by
  induction l with
  |nil=>rfl
  |cons x l ih=>rw[List.map_cons,List.flatten_cons,List.length_append,ih];simp[encRB];omega
 refine List.ext_getElem (by rw[Array.length_toList,size_flatK,hlen];rfl) fun t h1 h2=> ?_
 have ht:t<l.length*2:=by rw[←hlen];exact h2
 have h3:=key l t ht
 rw[List.getElem?_eq_getElem h2]at h3
 have h4:=get_flatK encRB 2 l.toArray t (by simpa using ht)
 rw[getElem!_pos _ t (by simpa using ht)]at h4
 rw[Array.getElem_toList,h4,Option.some.inj h3]
 simp
theorem holds_flat {w:World}{g:Nat}{cur:Array Value}{e:TypeId}{F:Array Value}(hb:w.heap[g]? =some (.cells cur e (0,0)))(ht:cur.toList.take F.size=F.toList):Holds id w g 0 F:=by
 intro j hj
 refine⟨?_,by simp[World.frozen?,hb]⟩
 have h1:(cur.toList.take F.size)[j]? =F.toList[j]? :=by rw[ht]
 rw[List.getElem?_take_of_lt hj]at h1
 simp only[World.cell?,hb,Nat.zero_add]
 simp only[Option.isSome_none,Bool.false_eq_true,if_false]
 rw[←Array.getElem?_toList,h1]
 simp[hj]
theorem take_putFlat (cur F:Array Value)(h:F.size≤cur.size):(Go.Sort.putCells id 0 F cur).toList.take F.size=F.toList:=by
 apply List.ext_getElem?
 intro j
 by_cases hj:j<F.size
 ·rw[List.getElem?_take_of_lt hj,Array.getElem?_toList]
  simp[Go.Sort.putCells,hj,show j<cur.size by omega]
 ·rw[List.getElem?_take_eq_none (by omega),List.getElem?_eq_none (by simp;omega)]
def toRB (r:Int×Int):RB:=if h: -2097152≤r.1∧r.1≤2097152 then⟨r,h⟩else rb0
def sortR (l:List (Int×Int)):List (Int×Int):=((pdq (ltOf cfRB) (l.map toRB).toArray 0 l.length (Lib.bitLen l.length) true true).toList).map (·.1)
theorem toRB_val {l:List (Int×Int)}(h: ∀r∈l,-2097152≤r.1∧r.1≤2097152):(l.map toRB).map (·.1)=l:=by
 rw[List.map_map]
 conv=>rhs;rw[←List.map_id l]
 refine List.map_congr_left fun r hr=> ?_
 simp[toRB,h r hr]
theorem sortR_ok {l:List (Int×Int)}(h: ∀r∈l,-2097152≤r.1∧r.1≤2097152):(sortR l).Perm l∧(sortR l).Pairwise (fun r s=>r.1≤s.1):=by
 have hs:(l.map toRB).toArray.size=l.length:=by simp
 have hp:=pdq_sorts (ltOf cfRB) swoRB (l.map toRB).toArray 0 (l.map toRB).toArray.size (Lib.bitLen (l.map toRB).toArray.size) true true (Nat.zero_le _) (Nat.le_refl _) (Or.inl rfl)
 rw[hs]at hp
 unfold sortR
 generalize pdq (ltOf cfRB) (l.map toRB).toArray 0 l.length (Lib.bitLen l.length) true true=d' at hp⊢
 obtain⟨⟨h1,_,h3⟩,h4⟩:=hp
 rw[hs]at h1
 have e1:(d'.extract 0 l.length).toList=d'.toList:=by rw[←h1];simp
 have e2:((l.map toRB).toArray.extract 0 l.length).toList=l.map toRB:=by simp[List.take_of_length_le]
 rw[e1,e2]at h3
 refine⟨?_,?_⟩
 ·have:=h3.map (·.1)
  rwa[toRB_val h]at this
 ·rw[List.pairwise_map,List.pairwise_iff_getElem]
  intro i j hi hj hij
  have:=h4 i j (Nat.zero_le _) hij (by rw[←h1];simpa using hj)
  rw[ltRB,getElem!_pos _ i (by simpa using hi),getElem!_pos _ j (by simpa using hj)]at this
  simp at this
  simpa using this
theorem ranges_rep {w:World}{Z:Nat→Prop}: ∀{l:List (Int×Int)} {vs:List Value},L2 (Rep w Z) vs (l.map cR).flatten→vs=(l.map fun r=>[Value.int .i64 r.1,Value.int .i64 r.2]).flatten
 | [],_,.nil=>rfl
 |r::l,_,.cons h1 (.cons h2 h3)=>by
  cases h1;cases h2
  rw[ranges_rep h3];rfl
theorem rep_ranges {w:World}{Z:Nat→Prop}: ∀(l:List (Int×Int)),L2 (Rep w Z) (l.map fun r=>[Value.int .i64 r.1,Value.int .i64 r.2]).flatten (l.map cR).flatten
 | []=> .nil
 |r::l=> .cons (.int _ _) (.cons (.int _ _) (rep_ranges l))
theorem flatRB2 {l:List (Int×Int)}(m:List RB)(h:m.map (·.1)=l):(flatK encRB 2 m.toArray).toList=(l.map fun r=>[Value.int .i64 r.1,Value.int .i64 r.2]).flatten:=by
 rw[flatRB,←h,List.map_map];rfl
theorem sortF_specM (l:List (Int×Int))(hl:l.length*16≤140737488355328)(hb: ∀r∈l,-2097152≤r.1∧r.1≤2097152):SpecM Tryz.prog 122 47 2 (l.map cR) [.fn (.func 123) [] []] ((sortR l).map cR) []:=by
 have hsl:(sortR l).length=l.length:=(sortR_ok hb).1.length_eq
 refine⟨⟨_,Tryz.func122,rfl,rfl⟩,fun p hp=>(by cases hp),fun w Z1 v0 vs ho hz hvs=> ?_⟩
 cases hvs with
 |cons hf hvs=>
 cases hvs
 cases hf with
 |fn _ us vs _ _ hu hc=>
 cases hu
 cases hc
 obtain⟨xs,hrow,hx,h1,h2⟩:=ho
 obtain rfl:=ranges_rep hx
 rw[List.length_map]at hrow
 obtain⟨hln,hrow⟩:=hrow
 have hflen: ∀m:List (Int×Int),((m.map fun r=>[Value.int .i64 r.1,Value.int .i64 r.2]).flatten).length=m.length*2:=fun m=>by
  induction m with
  |nil=>rfl
  |cons r m ih=>rw[List.map_cons,List.flatten_cons,List.length_append,ih];simp;omega
 rcases hrow with ⟨rfl,hnil⟩|⟨g,cap,cur,rfl,_,hbk,hcap,hmax,hsz,htk⟩
 ·obtain rfl:l=[]:=by simpa using hnil
  refine(AnyF.slices_SortFunc_none ly_laysSF none 0 _ w).mono ?_
  rintro e w' ⟨rfl,rfl⟩
  have hn:sortR []=[]:=List.eq_nil_of_length_eq_zero hsl
  refine⟨[],rfl,rfl,rfl,rfl,Nat.le_refl _,fun _ _ _=>rfl,?_,.nil⟩
  rw[hn]
  refine⟨[],⟨rfl,.inl ⟨rfl,rfl⟩⟩,.nil,?_,?_⟩<;>(intro r hr;cases hr)
 ·have hg:g<w.heap.size:=(Array.getElem?_eq_some_iff.1 hbk).1
  have hfl:=flatRB2 (l.map toRB) (toRB_val hb)
  have hfs:(flatK encRB 2 (l.map toRB).toArray).size=l.length*2:=by simp
  have hH:HoldsK encRB 2 w g 0 (l.map toRB).toArray:=holds_flat hbk (by rw[hfs,hfl];exact htk)
  have hcon:=AnyQ.slices_SortFunc_eq ly_laysSF 2 Tryz.isAgg47 Tryz.sizeOf47 encRB (fun _=>rfl) (fun x v hv=>by simp[encRB]at hv;rcases hv with rfl|rfl<;>rfl) cfRB swoRB 123 #[] g 0 cap (l.map toRB).toArray w
   (enters_of Tryz.func123 (by kernel_rfl) rfl) (fun _ _ _ _ x y=>cmpRB x y _) hH hg (by simp;omega)
  rw[show(l.map toRB).toArray.size=l.length by simp]at hcon
  refine hcon.mono ?_
  rintro e w' ⟨rfl,n,os,rfl⟩
  have hpz:(pdq (ltOf cfRB) (l.map toRB).toArray 0 l.length (Lib.bitLen l.length) true true).size=l.length:=by
   have:=hsl
   unfold sortR at this
   simpa using this
  have hfl2:=flatRB2 (l:=sortR l) (pdq (ltOf cfRB) (l.map toRB).toArray 0 l.length (Lib.bitLen l.length) true true).toList rfl
  generalize pdq (ltOf cfRB) (l.map toRB).toArray 0 l.length (Lib.bitLen l.length) true true=d' at hpz hfl2⊢
  have hfs2:(flatK encRB 2 d').size=l.length*2:=by rw[size_flatK,hpz]
  have hh:(sortWorldK encRB 2 w g 0 n d' os).heap[g]? =some (.cells (Go.Sort.putCells id 0 (flatK encRB 2 d') cur) 47 (0,0)):=by
   unfold sortWorldK putRowK
   rw[heap_grow_old _ _ (by simpa using hg)]
   simp[putRow,mapBlock,Sort.ahead,Array.getElem?_modify,hbk,onCells]
  have htk2:(Go.Sort.putCells id 0 (flatK encRB 2 d') cur).toList.take ((sortR l).length*2)=((sortR l).map fun r=>[Value.int .i64 r.1,Value.int .i64 r.2]).flatten:=by
   rw[hsl,←hfs2,take_putFlat _ _ (by rw[hfs2,hsz];exact Nat.mul_le_mul_right 2 hcap)]
   exact hfl2
  refine⟨[],rfl,rfl,rfl,rfl,?_,fun b hb1 hb2=> ?_,⟨((sortR l).map fun r=>[Value.int .i64 r.1,Value.int .i64 r.2]).flatten,⟨by rw[hflen,List.length_map],.inr ⟨g,cap,_,by rw[List.length_map,hsl],Nat.zero_le _,hh,by rw[List.length_map,hsl];exact hcap,hmax,by simp[Go.Sort.putCells,hsz],by rw[List.length_map];exact htk2⟩⟩,rep_ranges _,fun r hr=> ?_,fun r hr p hp=> ?_⟩,.nil⟩
  ·unfold sortWorldK putRowK
   simp
  ·unfold sortWorldK putRowK
   rw[heap_grow_old _ _ (by simpa using hb1)]
   have:g≠b:=fun e=>hb2 (by simp[VB,vblock,e])
   simp[putRow,mapBlock,Sort.ahead,Array.getElem?_modify,this]
  ·obtain⟨x,_,rfl⟩:=List.mem_map.1 hr;rfl
  ·obtain⟨x,_,rfl⟩:=List.mem_map.1 hr
   simp[cR]at hp
   rcases hp with rfl|rfl<;>rfl
end Go.Proofs.YtlcobmehnaeebaaGreat
namespace Go.Proofs.YtlcobmehnaeebaaGreat
open Go Go.RowKit
set_option linter.unusedVariables false
set_option linter.unusedSimpArgs false
def joinD (a b:List (Int×Int)):List (Int×Int):=joinG (sortR (a++b))
theorem joinD_ok {a b:List (Int×Int)}(ha:DomOk a)(hb:DomOk b)(h: ∀r∈a++b,-1048576≤r.1∧r.1≤1048576∧-1048576≤r.2∧r.2≤1048576):DomOk (joinD a b)∧∀v,v∈vals (joinD a b)↔v∈vals a∨v∈vals b:=by
 obtain⟨h1,h2⟩:=sortR_ok (l:=a++b) fun r hr=>by have:=h r hr;omega
 obtain⟨h3,_,h4⟩:=join_ok (sortR (a++b)) (fun r hr=>by
  rcases List.mem_append.1 (h1.mem_iff.1 hr)with hr|hr
  ·exact ha.1 r hr
  ·exact hb.1 r hr) h2
 refine⟨h3,fun v=> ?_⟩
 show v∈vals (joinG _)↔_
 rw[h4,mem_vals,mem_vals]
 constructor
 ·rintro⟨r,hr,h⟩
  rcases List.mem_append.1 (h1.mem_iff.1 hr)with hr|hr
  ·exact .inl ⟨r,hr,h⟩
  ·exact .inr ⟨r,hr,h⟩
 ·rintro(⟨r,hr,h⟩|⟨r,hr,h⟩)
  ·exact⟨r,h1.mem_iff.2 (List.mem_append_left _ hr),h⟩
  ·exact⟨r,h1.mem_iff.2 (List.mem_append_right _ hr),h⟩
def elemM (d:Doms)(vs:List Int)(i:Int):List (Int×Int):=meetR (domAt d (vs.getD (i.toNat+2) 0)) (domAt d (vs.getD 1 0))
def elemIn (d:Doms)(vs:List Int)(i:Int):Bool:=decide (0≤i)&&decide (i.toNat+2<vs.length)&& !decide (elemM d vs i=[])
def elemPl (d:Doms)(vs:List Int):List Int:=(vals (domAt d (vs.getD 0 0))).filter (elemIn d vs)
def elemMay (d:Doms)(vs:List Int)(l:List Int):List (Int×Int):=l.foldl (fun m i=>joinD m (elemM d vs i)) []
def elemOut (d:Doms)(vs l:List Int):Doms:=
 if l.length=1 then((d.set (vs.getD 0 0).toNat (domOfP l).1).set (vs.getD 1 0).toNat (elemMay d vs l)).set (vs.getD ((l.getD 0 0).toNat+2) 0).toNat (elemMay d vs l)else(d.set (vs.getD 0 0).toNat (domOfP l).1).set (vs.getD 1 0).toNat (elemMay d vs l)
def elemO (d:Doms)(c:Con):Option Doms:=if []∈d then none else if elemPl d c.vars=[]then none else some (elemOut d c.vars (elemPl d c.vars))
theorem dom_rng {x:List (Int×Int)}(h:DomOk x)(hv: ∀v∈vals x,-1048576≤v∧v≤1048576): ∀r∈x,-1048576≤r.1∧r.1≤1048576∧-1048576≤r.2∧r.2≤1048576:=fun r hr=>by
 have h0:=h.1 r hr
 have h1:=hv r.1 (mem_vals.2 ⟨r,hr,Int.le_refl _,h0⟩)
 have h2:=hv r.2 (mem_vals.2 ⟨r,hr,h0,Int.le_refl _⟩)
 omega
theorem GoodD.dok {n:Nat}{d:Doms}(gd:GoodD n d)(v:Int):DomOk (domAt d v):=by
 unfold domAt
 by_cases hv:v.toNat<d.length
 ·rw[List.getD_eq_getElem?_getD,List.getElem?_eq_getElem hv]
  exact(gd.few.fine _ (List.getElem_mem hv)).ok
 ·rw[List.getD_eq_getElem?_getD,List.getElem?_eq_none (by omega)]
  exact⟨by simp,.nil⟩
theorem elemM_ok {n:Nat}{d:Doms}(gd:GoodD n d)(vs:List Int)(i:Int):DomOk (elemM d vs i)∧∀v,v∈vals (elemM d vs i)↔v∈vals (domAt d (vs.getD (i.toNat+2) 0))∧v∈vals (domAt d (vs.getD 1 0)):=meetD_ok (gd.dok _) (gd.dok _)
theorem elemMay_ok {n:Nat}{d:Doms}(gd:GoodD n d)(vs:List Int)(l:List Int):DomOk (elemMay d vs l)∧∀v,v∈vals (elemMay d vs l)↔∃i∈l,v∈vals (elemM d vs i):=by
 refine snocInd (P:=fun l=>DomOk (elemMay d vs l)∧∀v,v∈vals (elemMay d vs l)↔∃i∈l,v∈vals (elemM d vs i)) ⟨⟨by simp[elemMay],.nil⟩,fun v=>by simp[elemMay,vals]⟩ (fun l i ⟨h1,h2⟩=> ?_) l
 have e:elemMay d vs (l++[i])=joinD (elemMay d vs l) (elemM d vs i):=by simp[elemMay]
 obtain⟨h3,h4⟩:=elemM_ok gd vs i
 have hr: ∀j v,v∈vals (elemM d vs j)→-1048576≤v∧v≤1048576:=fun j v hv=>(gd.few.at _).2.2 v (((elemM_ok gd vs j).2 v).1 hv).1
 obtain⟨h5,h6⟩:=joinD_ok h1 h3 fun r hr2=>by
  rcases List.mem_append.1 hr2 with hr2|hr2
  ·refine dom_rng h1 (fun v hv=> ?_) r hr2
   obtain⟨j,_,hj⟩:=(h2 v).1 hv
   exact hr j v hj
  ·exact dom_rng h3 (hr i) r hr2
 rw[e]
 refine⟨h5,fun v=> ?_⟩
 rw[h6,h2]
 constructor
 ·rintro(⟨j,hj,h⟩|h)
  ·exact⟨j,List.mem_append_left _ hj,h⟩
  ·exact⟨i,List.mem_append_right _ (.head _),h⟩
 ·rintro⟨j,hj,h⟩
  rcases List.mem_append.1 hj with hj|hj
  ·exact .inl ⟨j,hj,h⟩
  ·rw[List.mem_singleton.1 hj]at h;exact .inr h
theorem elemMay_few {n:Nat}{d:Doms}(gd:GoodD n d)(vs:List Int)(l:List Int):(elemMay d vs l).length≤4096∧∀r∈elemMay d vs l,-1048576≤r.1∧r.1≤1048576∧-1048576≤r.2∧r.2≤1048576:=by
 obtain⟨h1,h2⟩:=elemMay_ok gd vs l
 have hs: ∀v∈vals (elemMay d vs l),v∈vals (domAt d (vs.getD 1 0)):=fun v hv=>by
  obtain⟨i,_,h⟩:=(h2 v).1 hv
  exact(((elemM_ok gd vs i).2 v).1 h).2
 have h3:=up_length_le (vals_up h1) hs
 have h4:=(gd.few.at (vs.getD 1 0)).1
 have h5:=dom_length_le h1
 exact⟨by omega,dom_rng h1 fun v hv=>(gd.few.at _).2.2 v (hs v hv)⟩
theorem getD_mapI {vs:List Int}{f:Int→Int}{j:Nat}(h:j<vs.length):(vs.map f).getD j 0=f (vs.getD j 0):=by
 rw[List.getD_eq_getElem?_getD,List.getElem?_map,List.getElem?_eq_getElem h,List.getD_eq_getElem?_getD,List.getElem?_eq_getElem h];rfl
theorem getD_inj {vs:List Int}(hn:vs.Nodup){i j:Nat}(hi:i<vs.length)(hj:j<vs.length)(h:vs.getD i 0=vs.getD j 0):i=j:=by
 rw[getD_at hi,getD_at hj]at h
 rw[←hn.idxOf_getElem i hi,h,hn.idxOf_getElem j hj]
theorem getD_in {vs:List Int}{i:Nat}(hi:i<vs.length):vs.getD i 0∈vs:=by
 rw[getD_at hi];exact List.getElem_mem hi
theorem elemPl_iff {n:Nat}{d:Doms}(gd:GoodD n d)(vs:List Int)(i:Int):i∈elemPl d vs↔i∈vals (domAt d (vs.getD 0 0))∧0≤i∧i.toNat+2<vs.length∧∃y,y∈vals (elemM d vs i):=by
 have e: ¬elemM d vs i=[]↔∃y,y∈vals (elemM d vs i):=by
  rw[←vals_ne (elemM_ok gd vs i).1]
  constructor
  ·exact fun h=>List.exists_mem_of_ne_nil _ h
  ·rintro⟨y,hy⟩ h;rw[h]at hy;cases hy
 unfold elemPl elemIn
 rw[List.mem_filter,←e]
 simp[and_assoc]
def elemC (vs:List Int)(f:Int→Int):Prop:=0≤f (vs.getD 0 0)∧(f (vs.getD 0 0)).toNat+2<vs.length∧f (vs.getD ((f (vs.getD 0 0)).toNat+2) 0)=f (vs.getD 1 0)
theorem elemH_iff {vs:List Int}(h3:3≤vs.length)(f:Int→Int):elemH (vs.map f)=true↔elemC vs f:=by
 unfold elemH elemC
 rw[getD_mapI (j:=0) (by omega),getD_mapI (j:=1) (by omega)]
 simp only[Bool.and_eq_true,decide_eq_true_eq,List.length_map]
 generalize f (vs.getD 0 0)=i
 constructor
 ·rintro⟨⟨⟨_,h1⟩,h2⟩,h4⟩
  have e:(i+2).toNat=i.toNat+2:=by omega
  rw[e,getD_mapI (by omega)]at h4
  exact⟨h1,by omega,h4⟩
 ·rintro⟨h1,h2,h4⟩
  have e:(i+2).toNat=i.toNat+2:=by omega
  rw[e,getD_mapI (by omega)]
  exact⟨⟨⟨by omega,h1⟩,by omega⟩,h4⟩
theorem elem_supp {n:Nat}{d:Doms}(gd:GoodD n d){vs:List Int}(hn:vs.Nodup)(h3:3≤vs.length)(h0: ∀u∈vs,0≤u∧u.toNat<n){v:Int}(hv:v∈vs)(x:Int):
  (∃f:Int→Int,(∀u∈vs,f u∈vals (domAt d u))∧elemC vs f∧f v=x)↔∃i y,i∈elemPl d vs∧y∈vals (elemM d vs i)∧x∈vals (domAt d v)∧(v=vs.getD 0 0→x=i)∧(v=vs.getD 1 0→x=y)∧(v=vs.getD (i.toNat+2) 0→x=y):=by
 constructor
 ·rintro⟨f,h1,⟨h4,h5,h6⟩,rfl⟩
  have hy:f (vs.getD 1 0)∈vals (elemM d vs (f (vs.getD 0 0))):=by
   rw[(elemM_ok gd vs _).2]
   exact⟨by rw[←h6];exact h1 _ (getD_in h5),h1 _ (getD_in (by omega))⟩
  refine⟨f (vs.getD 0 0),f (vs.getD 1 0),(elemPl_iff gd vs _).2 ⟨h1 _ (getD_in (by omega)),h4,h5,_,hy⟩,hy,h1 v hv,fun e=>by rw[e],fun e=>by rw[e],fun e=>by rw[←h6,e]⟩
 ·rintro⟨i,y,hi,hy,hx,e0,e1,e2⟩
  obtain⟨i1,i2,i3,_⟩:=(elemPl_iff gd vs i).1 hi
  obtain⟨y1,y2⟩:=((elemM_ok gd vs i).2 y).1 hy
  have hg: ∀u,∃w,u∈vs→w∈vals (domAt d u):=fun u=>by
   by_cases hu:u∈vs
   ·obtain⟨w,hw⟩:=gd.ne (h0 u hu).2
    exact⟨w,fun _=>hw⟩
   ·exact⟨0,fun h=>absurd h hu⟩
  have d01:vs.getD 1 0≠vs.getD 0 0:=fun e=>by have:=getD_inj hn (by omega) (by omega) e;omega
  have d02:vs.getD (i.toNat+2) 0≠vs.getD 0 0:=fun e=>by have:=getD_inj hn (by omega) (by omega) e;omega
  have d12:vs.getD (i.toNat+2) 0≠vs.getD 1 0:=fun e=>by have:=getD_inj hn (by omega) (by omega) e;omega
  let f:Int→Int:=fun u=>if u=vs.getD 0 0 then i else if u=vs.getD 1 0 then y else if u=vs.getD (i.toNat+2) 0 then y else if u=v then x else Classical.choose (hg u)
  have f0:f (vs.getD 0 0)=i:=if_pos rfl
  have f1:f (vs.getD 1 0)=y:=by simp only[f];rw[if_neg d01,if_pos trivial]
  have f2:f (vs.getD (i.toNat+2) 0)=y:=by simp only[f];rw[if_neg d02,if_neg d12,if_pos trivial]
  refine⟨f,fun u hu=> ?_,⟨by rw[f0];exact i2,by rw[f0];exact i3,by rw[f0,f1,f2]⟩,?_⟩
  ·simp only[f]
   by_cases c0:u=vs.getD 0 0
   ·rw[if_pos c0,c0];exact i1
   rw[if_neg c0]
   by_cases c1:u=vs.getD 1 0
   ·rw[if_pos c1,c1];exact y2
   rw[if_neg c1]
   by_cases c2:u=vs.getD (i.toNat+2) 0
   ·rw[if_pos c2,c2];exact y1
   rw[if_neg c2]
   by_cases c3:u=v
   ·rw[if_pos c3,c3];exact hx
   ·rw[if_neg c3];exact Classical.choose_spec (hg u) hu
  ·simp only[f]
   by_cases c0:v=vs.getD 0 0
   ·rw[if_pos c0];exact(e0 c0).symm
   rw[if_neg c0]
   by_cases c1:v=vs.getD 1 0
   ·rw[if_pos c1];exact(e1 c1).symm
   rw[if_neg c1]
   by_cases c2:v=vs.getD (i.toNat+2) 0
   ·rw[if_pos c2];exact(e2 c2).symm
   rw[if_neg c2,if_pos trivial]
theorem elem_kept {n:Nat}{d:Doms}{c:Con}(gd:GoodD n d)(hc:ConB c)(h:conR d c=0)(hk:c.kind=3):oneO c d=elemO d c:=by
 obtain⟨_,hv,hr,hin⟩:=right_split hc h
 have hu:usesR c=sortU c.vars:=by unfold usesR;rw[if_neg (by omega)]
 have hrr:c.vars.Nodup∧3≤c.vars.length:=by
  unfold rightR at hr
  rw[if_neg (by omega),if_neg (by omega),if_neg (by omega),if_pos hk]at hr
  simp only[manyR,Bool.and_eq_true,decide_eq_true_eq]at hr
  exact⟨hr.1.2.2,hr.2⟩
 obtain⟨hnod,h3⟩:=hrr
 have hnd:(usesR c).Nodup:=up_nodup (sortU_up _)
 have hmem: ∀u,u∈usesR c↔u∈c.vars:=fun u=>by rw[hu];exact sortU_mem u _
 have hP: ∀f:Int→Int,holdsR c (fillW d.length (usesR c) ((usesR c).map f) (usesR c).length)=true↔elemC c.vars f:=fun f=>by
  have hpk:pickedR c.vars (fillW d.length (usesR c) ((usesR c).map f) (usesR c).length)=c.vars.map f:=List.map_congr_left fun v hv=>fillW_at f hin ((hmem v).2 hv)
  unfold holdsR
  rw[if_neg (by omega),if_neg (by omega),if_neg (by omega),if_pos hk,hpk]
  exact elemH_iff h3 f
 have h0: ∀u∈c.vars,0≤u∧u.toNat<n:=fun u hu=>by have:=hv.2 u hu;rwa[gd.len]at this
 have hS: ∀v∈c.vars,∀x,SuppK d (usesR c) (fun t=>holdsR c (fillW d.length (usesR c) t (usesR c).length)) v x↔∃i y,i∈elemPl d c.vars∧y∈vals (elemM d c.vars i)∧x∈vals (domAt d v)∧(v=c.vars.getD 0 0→x=i)∧(v=c.vars.getD 1 0→x=y)∧(v=c.vars.getD (i.toNat+2) 0→x=y):=fun v hvm x=>by
  rw[←elem_supp gd hnod h3 h0 hvm x]
  constructor
  ·rintro⟨f,h1,h2,h4⟩
   exact⟨f,fun u hu=>h1 u ((hmem u).2 hu),(hP f).1 h2,h4⟩
  ·rintro⟨f,h1,h2,h4⟩
   exact⟨f,fun u hu=>h1 u ((hmem u).1 hu),(hP f).2 h2,h4⟩
 unfold oneO elemO
 rw[if_neg (by omega),if_neg (by omega),if_neg (by omega),if_neg (by omega),if_neg gd.some']
 unfold keptR
 rw[if_neg gd.some']
 generalize (fun t=>holdsR c (fillW d.length (usesR c) t (usesR c).length))=P at hS⊢
 generalize usesR c=us at*
 have hlin: ∀u,u∈us→0≤u∧u.toNat<d.length:=hin
 clear hP h hu hr hc hk
 generalize c.vars=vs at*
 have dne: ∀j k,j<vs.length→k<vs.length→j≠k→(vs.getD j 0).toNat≠(vs.getD k 0).toNat:=fun j k hj hk e2 e=>e2 (getD_inj hnod hj hk (by have:=(h0 _ (getD_in hj)).1;have:=(h0 _ (getD_in hk)).1;omega))
 by_cases hl:elemPl d vs=[]
 ·rw[if_pos hl]
  refine if_pos ?_
  have hv0:vs.getD 0 0∈vs:=getD_in (by omega)
  have hz:=h0 _ hv0
  obtain⟨y,hy,hok,hx⟩:=(puts_at (P:=P) hnd hlin (vs.getD 0 0).toNat).2 (by rw[Int.toNat_of_nonneg hz.1];exact(hmem _).2 hv0)
  have:y=[]:=(vals_ne hok).1 (List.eq_nil_iff_forall_not_mem.2 fun x hxm=>by
   have:=(hx x).1 hxm
   rw[Int.toNat_of_nonneg hz.1,hS _ hv0,hl]at this
   obtain⟨i,_,h,_⟩:=this
   cases h)
  rw[this]at hy
  exact List.mem_of_getElem? hy
 ·rw[if_neg hl]
  obtain⟨m1,m2⟩:=elemMay_ok gd vs (elemPl d vs)
  have hlu:Up (elemPl d vs):=(vals_up (gd.dok _)).filter _
  have hlv: ∀v∈elemPl d vs,-1048576≤v∧v≤1048576:=fun v hv=>(gd.few.at _).2.2 v (List.mem_filter.1 hv).1
  have hll:(elemPl d vs).length≤4096:=Nat.le_trans (List.length_filter_le _ _) (gd.few.at _).1
  have hpl:=fun i=>elemPl_iff gd vs i
  have hof:=domOfP_up hlu hlv hll
  have hln:=up_nodup hlu
  have hmne: ∀i∈elemPl d vs,∃y,y∈vals (elemM d vs i):=fun i hi=>((hpl i).1 hi).2.2.2
  have hmay:elemMay d vs (elemPl d vs)≠[]:=fun e=>by
   obtain⟨i,hi⟩:=List.exists_mem_of_ne_nil _ hl
   obtain⟨y,hy⟩:=hmne i hi
   have:=(m2 y).2 ⟨i,hi,hy⟩
   rw[e]at this;cases this
  have hpk:pack (elemPl d vs)≠[]:=fun e=>hl (by rw[←vals_pack hlu,e];rfl)
  have hxx: ∀v x i y,y∈vals (elemM d vs i)→(v=vs.getD 1 0→x=y)→v=vs.getD 1 0→x∈vals (elemM d vs i):=fun v x i y hy e hv=>by rw[e hv];exact hy
  unfold elemOut
  rw[hof]
  generalize elemMay d vs (elemPl d vs)=may at*
  generalize hpe:elemPl d vs=l at*
  have hsz: ∀o:Doms,(if l.length=1 then((d.set (vs.getD 0 0).toNat (pack l)).set (vs.getD 1 0).toNat may).set (vs.getD ((l.getD 0 0).toNat+2) 0).toNat may else(d.set (vs.getD 0 0).toNat (pack l)).set (vs.getD 1 0).toNat may)=o→o.length=d.length:=fun o e=>by rw[←e];split<;>simp
  generalize hO:(if l.length=1 then((d.set (vs.getD 0 0).toNat (pack l)).set (vs.getD 1 0).toNat may).set (vs.getD ((l.getD 0 0).toNat+2) 0).toNat may else(d.set (vs.getD 0 0).toNat (pack l)).set (vs.getD 1 0).toNat may)=out
  have hlen:=hsz out hO
  have hd0:=fun j (hj:j<vs.length)=>(hlin _ ((hmem _).2 (getD_in hj))).2
  have hi0:l.length=1→l.getD 0 0∈l:=fun e=>by rw[getD_at (by omega)];exact List.getElem_mem _
  have hb0:l.length=1→(l.getD 0 0).toNat+2<vs.length:=fun e=>((hpl _).1 (hi0 e)).2.2.1
  have hat: ∀j,j<vs.length→domAt out (vs.getD j 0)=if j=0 then pack l else if j=1 then may else if l.length=1∧j=(l.getD 0 0).toNat+2 then may else domAt d (vs.getD j 0):=fun j hj=>by
   rw[←hO]
   by_cases hl1:l.length=1
   ·rw[if_pos hl1,domAt_set (by simp;exact hd0 _ (hb0 hl1)),domAt_set (by simp;exact hd0 1 (by omega)),domAt_set (hd0 0 (by omega))]
    by_cases c2:j=(l.getD 0 0).toNat+2
    ·rw[if_pos (by rw[c2]),if_neg (by omega),if_neg (by omega),if_pos ⟨hl1,c2⟩]
    ·rw[if_neg (dne _ _ (hb0 hl1) hj (Ne.symm c2)),if_neg (c:=l.length=1∧_) (fun h=>c2 h.2)]
     by_cases c1:j=1
     ·rw[if_pos (by rw[c1]),if_neg (by omega),if_pos c1]
     ·rw[if_neg (dne _ _ (by omega) hj (Ne.symm c1)),if_neg c1]
      by_cases c0:j=0
      ·rw[if_pos (by rw[c0]),if_pos c0]
      ·rw[if_neg (dne _ _ (by omega) hj (Ne.symm c0)),if_neg c0]
   ·rw[if_neg hl1,domAt_set (by simp;exact hd0 1 (by omega)),domAt_set (hd0 0 (by omega)),if_neg (c:=l.length=1∧_) (fun h=>hl1 h.1)]
    by_cases c1:j=1
    ·rw[if_pos (by rw[c1]),if_neg (by omega),if_pos c1]
    ·rw[if_neg (dne _ _ (by omega) hj (Ne.symm c1)),if_neg c1]
     by_cases c0:j=0
     ·rw[if_pos (by rw[c0]),if_pos c0]
     ·rw[if_neg (dne _ _ (by omega) hj (Ne.symm c0)),if_neg c0]
  have hms: ∀x∈out,x=pack l∨x=may∨x∈d:=fun x hx=>by
   rw[←hO]at hx
   split at hx
   ·rcases List.mem_or_eq_of_mem_set hx with hx|hx
    ·rcases List.mem_or_eq_of_mem_set hx with hx|hx
     ·rcases List.mem_or_eq_of_mem_set hx with hx|hx
      ·exact .inr (.inr hx)
      ·exact .inl hx
     ·exact .inr (.inl hx)
    ·exact .inr (.inl hx)
   ·rcases List.mem_or_eq_of_mem_set hx with hx|hx
    ·rcases List.mem_or_eq_of_mem_set hx with hx|hx
     ·exact .inr (.inr hx)
     ·exact .inl hx
    ·exact .inr (.inl hx)
  rw[kept_eq (out:=out) hnd hlin hlen (fun x hx=> ?_) (fun v hvm x=> ?_) (fun i hi=> ?_)]
  ·unfold toldO
   rw[if_neg]
   intro hm
   rcases hms _ hm with e|e|e
   ·exact hpk e.symm
   ·exact hmay e.symm
   ·exact gd.some' e
  ·rcases hms x hx with rfl|rfl|hx
   ·exact pack_ok hlu
   ·exact m1
   ·exact(gd.few.fine x hx).ok
  ·have hvc:=(hmem v).1 hvm
   rw[hS v hvc]
   have hj:vs.idxOf v<vs.length:=List.idxOf_lt_length_iff.2 hvc
   have hve:v=vs.getD (vs.idxOf v) 0:=by rw[getD_at hj,List.getElem_idxOf]
   generalize vs.idxOf v=j at hj hve
   subst hve
   have hvi: ∀k,k<vs.length→(vs.getD j 0=vs.getD k 0↔j=k):=fun k hk=>⟨getD_inj hnod hj hk,fun e=>by rw[e]⟩
   rw[hat j hj]
   by_cases c0:j=0
   ·subst c0
    rw[if_pos rfl,vals_pack hlu]
    constructor
    ·intro hx
     obtain⟨y,hy⟩:=hmne x hx
     obtain⟨a1,a2,a3,_⟩:=(hpl x).1 hx
     exact⟨x,y,hx,hy,a1,fun _=>rfl,fun e=>by rw[hvi 1 (by omega)]at e;omega,fun e=>by rw[hvi _ a3]at e;omega⟩
    ·rintro⟨i,y,hi,_,_,e,_⟩
     rw[e rfl];exact hi
   rw[if_neg c0]
   by_cases c1:j=1
   ·subst c1
    rw[if_pos rfl,m2]
    constructor
    ·rintro⟨i,hi,hx⟩
     obtain⟨a1,a2,a3,_⟩:=(hpl i).1 hi
     exact⟨i,x,hi,hx,(((elemM_ok gd vs i).2 x).1 hx).2,fun e=>absurd ((hvi 0 (by omega)).1 e) (by omega),fun _=>rfl,fun e=>absurd ((hvi _ a3).1 e) (by omega)⟩
    ·rintro⟨i,y,hi,hy,_,_,e,_⟩
     exact⟨i,hi,by rw[e rfl];exact hy⟩
   rw[if_neg c1]
   by_cases hl1:l.length=1
   ·have hone: ∀i∈l,i=l.getD 0 0:=fun i hi=>by
     obtain⟨z,rfl⟩:=List.length_eq_one_iff.1 hl1
     rw[List.mem_singleton.1 hi];rfl
    by_cases c2:j=(l.getD 0 0).toNat+2
    ·rw[if_pos ⟨hl1,c2⟩,m2]
     constructor
     ·rintro⟨i,hi,hx⟩
      obtain⟨a1,a2,a3,_⟩:=(hpl i).1 hi
      have:=hone i hi
      exact⟨i,x,hi,hx,by have:=(((elemM_ok gd vs i).2 x).1 hx).1;rw[c2,←hone i hi];exact this,fun e=>by rw[hvi 0 (by omega)]at e;omega,fun _=>rfl,fun _=>rfl⟩
     ·rintro⟨i,y,hi,hy,_,_,_,e⟩
      exact⟨i,hi,by rw[e (by rw[c2,hone i hi])];exact hy⟩
    ·rw[if_neg fun h=>c2 h.2]
     constructor
     ·intro hx
      obtain⟨y,hy⟩:=hmne _ (hi0 hl1)
      exact⟨_,y,hi0 hl1,hy,hx,fun e=>by rw[hvi 0 (by omega)]at e;omega,fun e=>by rw[hvi 1 (by omega)]at e;omega,fun e=>by rw[hvi _ (hb0 hl1)]at e;omega⟩
     ·rintro⟨i,y,_,_,hx,_⟩
      exact hx
   ·rw[if_neg fun h=>hl1 h.1]
    constructor
    ·intro hx
     have: ∃i∈l,i.toNat+2≠j:=by
      match l,hl,hl1,hln,hpl with
      | [],hl,_,_,_=>exact absurd rfl hl
      | [z],_,h1,_,_=>exact absurd rfl h1
      |z::t::_,_,_,hln,hpl=>
       by_cases e:z.toNat+2=j
       ·refine⟨t,.tail _ (.head _),fun e2=> ?_⟩
        have a1:=((hpl z).1 (.head _)).2.1
        have a2:=((hpl t).1 (.tail _ (.head _))).2.1
        have:z=t:=by omega
        rw[this]at hln
        exact(List.nodup_cons.1 hln).1 (.head _)
       ·exact⟨z,.head _,e⟩
     obtain⟨i,hi,hne⟩:=this
     obtain⟨y,hy⟩:=hmne i hi
     exact⟨i,y,hi,hy,hx,fun e=>by rw[hvi 0 (by omega)]at e;omega,fun e=>by rw[hvi 1 (by omega)]at e;omega,fun e=>by rw[hvi _ ((hpl i).1 hi).2.2.1]at e;omega⟩
    ·rintro⟨i,y,_,_,hx,_⟩
     exact hx
  ·have hni: ∀k,k<vs.length→(vs.getD k 0).toNat≠i:=fun k hk e=>hi (by
    rw[←e,Int.toNat_of_nonneg (h0 _ (getD_in hk)).1];exact(hmem _).2 (getD_in hk))
   rw[←hO]
   by_cases hl1:l.length=1
   ·rw[if_pos hl1,List.getElem?_set_ne (hni _ (hb0 hl1)),List.getElem?_set_ne (hni 1 (by omega)),List.getElem?_set_ne (hni 0 (by omega))]
   ·rw[if_neg hl1,List.getElem?_set_ne (hni 1 (by omega)),List.getElem?_set_ne (hni 0 (by omega))]
set_option maxRecDepth 8000
theorem joinG_snd {l:List (Int×Int)}(h: ∀r∈l,-1048576≤r.2∧r.2≤1048576): ∀r∈joinG l,-1048576≤r.2∧r.2≤1048576:=by
 revert h
 refine snocInd (P:=fun l=>(∀r∈l,-1048576≤r.2∧r.2≤1048576)→∀r∈joinG l,-1048576≤r.2∧r.2≤1048576) (fun _ r hr=>by simp[joinG]at hr) (fun l x ih h=> ?_) l
 have ih:=ih fun r hr=>h r (List.mem_append_left _ hr)
 have hx:=h x (List.mem_append_right _ (.head _))
 rw[joinG_snoc]
 rcases List.eq_nil_or_concat (joinG l)with e|⟨o,r,e⟩
 ·rw[e,joinS_nil]
  intro r hr
  rw[List.mem_singleton.1 hr];exact hx
 ·rw[e,List.concat_eq_append]at ih⊢
  rw[joinS_snoc]
  have hr:=ih r (List.mem_append_right _ (.head _))
  split
  ·intro s hs
   rcases List.mem_append.1 hs with hs|hs
   ·exact ih s (List.mem_append_left _ hs)
   ·rw[List.mem_singleton.1 hs];simp only;omega
  ·intro s hs
   rcases List.mem_append.1 hs with hs|hs
   ·exact ih s hs
   ·rw[List.mem_singleton.1 hs];exact hx
set_option maxHeartbeats 2000000 in
theorem djoin_spec (a b:List (Int×Int))(hl:(a.length+b.length+1)*16≤140737488355328)(hb: ∀r∈a++b,-1048576≤r.1∧r.1≤1048576∧-1048576≤r.2∧r.2≤1048576):
  Spec Tryz.prog 71 false [dm a,dm b] [.own 47 2 ((joinD a b).map cR)]:=by
 refine Spec.body Tryz.func71 rfl rfl rfl fun w0 Z0=> ?_
 have hso:=sortR_ok (l:=a++b) fun r hr=>by have:=hb r hr;omega
 have hspec:=sortF_specM (a++b) (by simp;omega) fun r hr=>by have:=hb r hr;omega
 have hsb: ∀r∈sortR (a++b),-1048576≤r.1∧r.1≤1048576∧-1048576≤r.2∧r.2≤1048576:=fun r hr=>hb r (hso.1.mem_iff.1 hr)
 have hsl:(sortR (a++b)).length=a.length+b.length:=by rw[hso.1.length_eq];simp
 show T _ _ _ _
 unfold joinD
 generalize sortR (a++b)=l at*
 repeat(refine .A ?_;conv=>whnf)
 refine .C (clone_spec a (by omega)) ?_
 repeat(refine .A ?_;conv=>whnf)
 refine J.am (enc:=cR) (l:=a) (l2:=b) (B:=16) rfl rfl rfl rfl rfl rfl rfl rfl rfl rfl rfl rfl rfl rfl rfl rfl rfl (fun _=>rfl) rfl (by omega) ?_
 repeat(refine .A ?_;conv=>whnf)
 refine J.cm rfl rfl rfl rfl rfl rfl rfl rfl rfl hspec rfl rfl rfl ?_
 repeat(refine .A ?_;conv=>whnf)
 refine T.sub (Rel.own0 (s:=6) 47 2 rfl) ?_
 refine T.sub (Rel.flat (o:=1) rfl flat_R) ?_
 refine T.K (T.list l (fun n pre post=>⟨[(6,.ref 0),(16,.ref 1),(17,.val true (.int .i64 (l.map cR).length)),(18,.val true (.int .i64 n))],[(0,some (.sl 47 2 true ((joinG pre).map cR))),(1,some (.sl 47 2 true (l.map cR)))],2⟩) (fun _ _ h=>h) ?_ ?_)
 ·rintro n pre ⟨x1,x2⟩ post h hn ih
  have hlt:=at_lt h hn
  have hpl:=joinG_len pre
  have hpn:pre.length≤l.length:=by rw[h];simp
  have hx:=hsb (x1,x2) (by rw[h];simp)
  simp only at hx
  have hpb: ∀r∈joinG pre,-1048576≤r.2∧r.2≤1048576:=joinG_snd fun r hr=>by have:=hsb r (by rw[h];simp[hr]);omega
  rw[joinG_snoc]at ih
  repeat(refine .A ?_;conv=>whnf)
  refine T.ct2 rfl (lt_at h hn) ?_
  repeat(refine .A ?_;conv=>whnf)
  refine J.io rfl rfl rfl rfl rfl rfl rfl rfl rfl (by omega) (by simp;omega) rfl ?_
  repeat(refine .A ?_;conv=>whnf)
  refine J.lo rfl rfl rfl rfl rfl rfl (r:=cR (x1,x2)) (row_at h hn) rfl ?_
  repeat(refine .A ?_;conv=>whnf)
  refine J.al rfl rfl rfl rfl rfl rfl rfl ?_
  refine J.w rfl rfl rfl rfl rfl rfl rfl rfl rfl rfl ?_
  repeat(refine .A ?_;conv=>whnf)
  have hw1:=wrap1 hlt (by omega)
  have hby:((joinG pre).length+1)*16≤140737488355328:=by omega
  generalize joinG pre=out at*
  rcases List.eq_nil_or_concat out with rfl|⟨o,⟨a,b⟩,rfl⟩
  ·rw[joinS_nil]at ih
   refine J.g rfl rfl rfl (fun h2=> ?_) (fun h2=> ?_)
   ·simp at h2
   repeat(refine .A ?_;conv=>whnf)
   refine T.cf rfl ?_
   repeat(refine .A ?_;conv=>whnf)
   refine .V ?_
   repeat(refine .A ?_;conv=>whnf)
   refine J.aR rfl rfl rfl rfl rfl rfl rfl rfl rfl rfl rfl rfl rfl rfl rfl rfl rfl rfl rfl (by simp) ?_
   repeat(refine .A ?_;conv=>whnf)
   rw[wrap1 hlt (by omega)]
   exact T.K ih
  ·rw[List.concat_eq_append]at*
   rw[joinS_snoc]at ih
   have hab:=hpb (a,b) (by simp)
   simp only at hab
   have hw2:IntKind.i64.wrap (b+1)=b+1:=wrap_id (by omega) (by omega)
   refine J.g rfl rfl rfl (fun h2=> ?_) (fun h2=> ?_)
   rotate_left
   ·simp at h2
   have hlw:IntKind.i64.wrap (((((o++[(a,b)]).map cR).length:Nat):Int)-1)=(o.length:Int):=by
    rw[List.length_map,List.length_append,wrap_id]<;>simp at* <;>omega
   have hro:((o++[(a,b)]).map cR)[((o.length:Nat):Int).toNat]? =some (cR (a,b)):=by simp
   repeat(refine .A ?_;conv=>whnf)
   rw[hlw]
   refine J.io rfl rfl rfl rfl rfl rfl rfl rfl rfl (Int.natCast_nonneg _) (by simp) rfl ?_
   repeat(refine .A ?_;conv=>whnf)
   refine J.lo rfl rfl rfl rfl rfl rfl (r:=cR (a,b)) hro rfl ?_
   repeat(refine .A ?_;conv=>whnf)
   rw[hw2]
   refine T.cd rfl (fun h3=> ?_) (fun h3=> ?_)
   ·rw[if_pos h3]at ih
    repeat(refine .A ?_;conv=>whnf)
    refine T.rdw 12 rfl (by kernel_rfl) rfl ?_
    repeat(refine .A ?_;conv=>whnf)
    rw[hlw]
    refine J.io rfl rfl rfl rfl rfl rfl rfl rfl rfl (Int.natCast_nonneg _) (by simp) rfl ?_
    repeat(refine .A ?_;conv=>whnf)
    refine J.lo rfl rfl rfl rfl rfl rfl (r:=cR (a,b)) hro rfl ?_
    repeat(refine .A ?_;conv=>whnf)
    refine⟨rfl,?_⟩
    refine J.io rfl rfl rfl rfl rfl rfl rfl rfl rfl (Int.natCast_nonneg _) (by simp) rfl ?_
    repeat(refine .A ?_;conv=>whnf)
    refine J.w rfl rfl rfl rfl rfl rfl rfl rfl rfl (put_last o a b (max b x2)) ?_
    repeat(refine .A ?_;conv=>whnf)
    rw[hw1]
    exact T.K ih
   ·rw[if_neg h3]at ih
    repeat(refine .A ?_;conv=>whnf)
    refine .V ?_
    repeat(refine .A ?_;conv=>whnf)
    refine J.aR rfl rfl rfl rfl rfl rfl rfl rfl rfl rfl rfl rfl rfl rfl rfl rfl rfl rfl rfl (l:=o++[(a,b)]) (a:=x1) (b:=x2) hby ?_
    repeat(refine .A ?_;conv=>whnf)
    rw[hw1]
    exact T.K ih
 ·repeat(refine .A ?_;conv=>whnf)
  refine T.cf2 rfl lt_end ?_
  repeat(refine .A ?_;conv=>whnf)
  exact⟨_,.o rfl rfl rfl (fun _=> .inl rfl) (by simp) .nil⟩
end Go.Proofs.YtlcobmehnaeebaaGreat
