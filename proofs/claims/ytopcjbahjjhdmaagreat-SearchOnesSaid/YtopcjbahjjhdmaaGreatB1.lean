/- The texts CoreA, CoreB, CoreC, CoreD, CoreE, CoreF, CoreG, CoreH of the workplace, joined. -/
import Derived.Orders
import Derived.Laws.AppendOwn
import Derived.Laws.Slices
import Derived.Below
import Derived.KernelRfl
import Derived.Tactics
import Derived.Maps.AppendAt
namespace Go.Proofs.YtopcjbahjjhdmaaGreat
open Go Go.RowKit
abbrev D0:=@List.getD_eq_getElem?_getD
abbrev D1:=@List.getElem?_eq_getElem
abbrev D2:=@if_neg
abbrev D3:=@Option.some.inj
abbrev D4:=@if_pos
abbrev D5:=@List.getElem?_eq_some_iff
abbrev D6:=@Option.some.injEq
abbrev D7:=@List.mem_of_getElem?
abbrev D8:=@List.getElem_mem
abbrev D9:=@List.length_map
abbrev DA:=@Result.andThen_ok
abbrev DB:=@List.take_succ_eq_append_getElem
abbrev DC:=@decide_eq_false
abbrev DD:=@decide_eq_true
abbrev DE:=@List.getElem?_map
abbrev DF:=@List.mem_map
abbrev DG:=@List.mem_singleton
abbrev DH:=@List.getElem?_of_mem
abbrev DI:=@List.all_eq_true
abbrev DJ:=@Bool.and_eq_true
abbrev DK:=@Sem.run_bind
abbrev DL:=@Nat.le_refl
abbrev DM:=@List.mem_range
abbrev DN:=@decide_eq_true_eq
abbrev DO:=@List.mem_cons
abbrev DP:=@List.eq_nil_of_length_eq_zero
abbrev DQ:=@List.drop_eq_getElem_cons
abbrev DR:=@Array.getElem?_eq_some_iff
abbrev DS:=@List.take_of_length_le
abbrev DT:=@List.mem_append
abbrev DU:=@absurd
abbrev DV:=@List.mem_or_eq_of_mem_set
abbrev DW:=@Int.toNat_natCast
abbrev DX:=@List.length_append
abbrev DY:=@Option.map_eq_some_iff
abbrev DZ:=@List.map_cons
abbrev Dm:=@List.pairwise_cons
abbrev Dn:=@List.foldl_cons
abbrev Do:=@List.mem_append_left
abbrev Dp:=@List.length_cons
abbrev Dq:=@List.mem_append_right
abbrev Dr:=@Sem.run_pure
abbrev Ds:=@List.getElem?_set_ne
abbrev Dt:=@Array.getElem?_eq_getElem
abbrev Du:=@Nat.le_trans
abbrev Dv:=@List.of_mem_zip
abbrev Dw:=@List.getElem?_append_right
abbrev Dx:=@List.length_take
abbrev Dy:=@Nat.le_of_ble_eq_true
abbrev Dz:=@Nat.zero_le
abbrev E0:=@Classical.byContradiction
abbrev E4:=@List.append_assoc
abbrev E5:=@Array.getD_eq_getD_getElem?
abbrev E6:=@List.getElem?_set_self
abbrev E7:=@List.length_set
abbrev E8:=@List.take_length
abbrev E9:=@List.getElem?_append_left
abbrev EA:=@Nat.mul_le_mul_right
abbrev EB:=@List.getElem?_eq_none
abbrev EC:=@List.map_append
abbrev ED:=@List.nodup_cons
abbrev EE:=@List.findIdx?_eq_none_iff
abbrev EF:=@Bool.false_eq_true
abbrev EG:=@Option.map_some
abbrev EH:=@List.mem_filter
abbrev EI:=@Array.length_toList
abbrev EJ:=@List.map_congr_left
abbrev EK:=@List.getElem?_set
abbrev EL:=@of_decide_eq_true
abbrev EM:=@Int.mul_le_mul_of_nonneg_left
abbrev EN:=@Int.le_refl
abbrev EO:=@Nat.not_lt_zero
abbrev EP:=@List.flatten_cons
abbrev EQ:=@Array.toArray_toList
abbrev ER:=@Bool.not_eq_true'
abbrev ES:=@Nat.min_eq_left
abbrev ET:=@Nat.add_sub_cancel_left
abbrev EU:=@Bool.true_and
abbrev EV:=@Nat.eq_of_beq_eq_true
abbrev EW:=@List.length_singleton
abbrev EX:=@List.length_filter_le
abbrev EY:=@List.drop_length
abbrev EZ:=@List.any_eq_true
abbrev Ea:=@List.nil_append
abbrev Eb:=@List.sum_cons
abbrev Ec:=@List.findIdx?_eq_some_iff_getElem
abbrev Ed:=@Option.getD_some
abbrev Ee:=@List.length_nil
abbrev Ef:=@List.drop_of_length_le
abbrev Eg:=@List.mem_of_mem_take
abbrev Eh:=@Nat.lt_succ_self
abbrev Ei:=@List.cons_append
abbrev Ej:=@List.ext_getElem?
abbrev Ek:=@List.getElem?_take
abbrev El:=@List.getElem?_cons_succ
abbrev Em:=@List.pairwise_singleton
abbrev En:=@Nat.add_assoc
abbrev Eo:=@Array.getElem?_toList
abbrev Ep:=@List.getElem?_range
abbrev Er:=@List.all_append
abbrev Et:=@List.mem_of_mem_drop
abbrev Eu:=@List.exists_mem_of_ne_nil
abbrev Ev:=@List.getElem?_zip_eq_some
abbrev Ew:=@Nat.zero_add
abbrev Ex:=@List.append_nil
abbrev Ey:=@Bool.or_eq_true
abbrev Ez:=@List.getElem?_take_of_lt
abbrev F0:=@List.concat_eq_append
abbrev F1:=@Nat.add_zero
abbrev F2:=@List.flatMap_cons
abbrev F3:=@List.map_map
abbrev F4:=@List.pairwise_append
abbrev F5:=@List.zip_cons_cons
abbrev F6:=@List.eq_nil_iff_forall_not_mem
abbrev F7:=@List.getElem_of_mem
abbrev F8:=@List.getElem?_toArray
abbrev F9:=@List.eq_nil_or_concat
abbrev FA:=@List.find?_range_eq_some
abbrev FB:=@List.idxOf_lt_length_iff
abbrev FC:=@Nat.add_comm
abbrev FD:=@Bool.eq_iff_iff
abbrev FE:=@List.getElem?_cons_zero
abbrev FG:=@List.mem_flatMap
abbrev FH:=@List.filter_cons_of_pos
abbrev FI:=@List.not_all_eq_any_not
abbrev FJ:=@Array.getElem?_append_left
abbrev FK:=@Bool.false_and
abbrev FL:=@Int.toNat_of_nonneg
abbrev FM:=@Nat.add_mul
abbrev FN:=@Option.map_none
abbrev FO:=@Array.mapM_eq_mapM_toList
abbrev FP:=@List.take_append_drop
abbrev FQ:=@Array.mem_append
abbrev FR:=@List.findIdx?_cons
abbrev FS:=@List.find?_eq_none
abbrev FT:=@Bool.not_eq_false'
abbrev FU:=@List.ext_getElem
abbrev FV:=@List.getElem_map
abbrev FW:=@List.take_append_of_le_length
abbrev FX:=@Int.mul_le_mul_of_nonpos_left
abbrev FY:=@List.all_eq_false
abbrev FZ:=@List.filter_cons_of_neg
abbrev Fa:=@List.length_eq_one_iff
abbrev Fb:=@List.all_cons
abbrev Fc:=@List.getElem_inj
abbrev Fd:=@Nat.blt_eq
abbrev Fe:=@Array.toList_setIfInBounds
abbrev Ff:=@List.getElem?_drop
abbrev Fg:=@List.mapM_cons
abbrev Fh:=@Int.natCast_nonneg
abbrev Fi:=@List.filter_append
abbrev Fj:=@List.getElem_idxOf
abbrev Fk:=@List.mem_iff_getElem?
abbrev Fl:=@List.pairwise_iff_getElem
abbrev Fm:=@List.ne_nil_of_length_pos
abbrev Fo:=@Nat.succ_mul
abbrev Fp:=@Array.mem_toList_iff
abbrev Fq:=@List.any_eq_false
abbrev Fr:=@List.mem_iff_getElem
abbrev Fs:=@List.eq_of_mem_replicate
abbrev Ft:=@List.mem_flatten
abbrev Fu:=@Option.bind_some
abbrev Fv:=@List.countP_cons
abbrev Fw:=@List.getElem_zip
abbrev Fx:=@Nat.lt_of_lt_of_le
abbrev Fy:=@Array.foldl_toList
abbrev Fz:=@List.map_set
abbrev G0:=@List.range_succ
abbrev G1:=@List.map_take
abbrev G2:=@List.set_append_right
abbrev G3:=@List.length_mergeSort
abbrev G4:=@Array.getElem?_modify
abbrev G5:=@List.size_toArray
abbrev G6:=@Nat.lt_succ_of_lt
abbrev G7:=@List.nodup_append
abbrev G8:=@List.idxOf_lt_length_of_mem
abbrev G9:=@List.take_take
abbrev GA:=@Array.replicate_succ
abbrev GB:=@Array.replicate_zero
abbrev GC:=@Int.tdiv_eq_ediv_of_nonneg
abbrev GD:=@List.findIdx?_append
abbrev GE:=@Bool.or_eq_false_iff
abbrev GF:=@Bool.and_false
abbrev GG:=@List.map_nil
abbrev GH:=@List.filter_cons
abbrev GI:=@Nat.sub_self
abbrev GJ:=@Int.zero_add
abbrev GK:=@List.length_pos_iff
abbrev GL:=@List.append_toArray
abbrev GM:=@List.countP_pos_iff
abbrev GN:=@Nat.zero_lt_one
abbrev GO:=@List.set_cons_zero
abbrev GP:=@Bool.true_eq_false
abbrev GQ:=@Option.bind_eq_some_iff
abbrev GR:=@Nat.le_mul_of_pos_right
abbrev GS:=@Nat.mul_one
abbrev GT:=@List.drop_eq_nil_of_le
abbrev GU:=@List.take_left
abbrev GV:=@Nat.le_of_lt
abbrev GW:=@List.push_toArray
abbrev GX:=@List.length_drop
abbrev GY:=@List.map_toArray
abbrev GZ:=@List.mem_toArray
abbrev Ga:=@List.not_mem_nil
abbrev Gb:=@Bool.not_eq_true
abbrev Gc:=@Bool.and_true
abbrev Gd:=@List.getLast?_eq_some_getLast
abbrev Ge:=@Int.neg_mul
abbrev Gf:=@List.exists_mem_of_length_pos
abbrev Gg:=@Bool.and_eq_true_iff
abbrev Gh:=@Array.getElem?_setIfInBounds
abbrev Gi:=@Array.toList_zipIdx
abbrev Gj:=@List.take_succ_cons
abbrev Gk:=@List.drop_set_of_lt
abbrev Gl:=@Nat.mul_le_mul_left
abbrev Gm:=@List.mergeSort_perm
abbrev Gn:=@List.filter_eq_self
abbrev Gp:=@Nat.ne_of_lt
abbrev Gq:=@Option.isSome_none
abbrev Gr:=@Int.tmod_eq_emod_of_nonneg
abbrev Gs:=@Nat.mul_le_mul
abbrev Gt:=@List.mem_of_find?_eq_some
abbrev Gu:=@Int.natAbs_tdiv_le_natAbs
abbrev Gv:=@Int.eq_of_mul_eq_mul_left
abbrev Gw:=@Sem.run_map
abbrev Gx:=@Nat.lt_trichotomy
abbrev Gy:=@Array.toList_push
abbrev Gz:=@List.foldl_append
abbrev H0:=@List.pairwise_map
abbrev H1:=@List.filter_congr
abbrev H2:=@Nat.le_succ_of_le
abbrev H3:=@Nat.lt_irrefl
abbrev H4:=@Bool.false_or
abbrev H5:=@List.mem_of_mem_eraseIdx
abbrev H6:=@List.zipIdx_cons
abbrev H7:=@Nat.le_of_not_lt
abbrev H8:=@Nat.le_add_right
abbrev H9:=@List.pairwise_mergeSort
abbrev HA:=@Nat.zero_mul
abbrev HB:=@Nat.beq_refl
abbrev HC:=@Nat.lt_or_ge
abbrev HD:=@Bool.not_not
abbrev HE:=@Int.natCast_mul
abbrev HF:=@List.drop_drop
abbrev HG:=@List.foldl_nil
abbrev HH:=@Nat.not_lt
abbrev Y:=@rfl
set_option linter.unusedVariables false
inductive L2 {α β:Type}(R:α->β->Prop):List α->List β->Prop
 |nil:L2 R [] []
 |cons {a b as bs}:R a b->L2 R as bs->L2 R (a::as) (b::bs)
namespace L2
variable {α β:Type}{R R':α->β->Prop}
theorem length {as:List α}{bs:List β}(h:L2 R as bs):as.length=bs.length:=by
 induction h with
 |nil=>rfl
 |cons _ _ ih=>simp[ih]
theorem imp {as:List α}{bs:List β}(h:L2 R as bs)(hi: ∀a b,R a b->R' a b):L2 R' as bs:=by
 induction h with
 |nil=>exact .nil
 |cons h _ ih=>exact .cons (hi _ _ h) ih
theorem get {as:List α}{bs:List β}(h:L2 R as bs){i:Nat}{b:β}(hb:bs[i]? =some b): ∃a,as[i]? =some a/\R a b:=by
 induction h generalizing i with
 |nil=>simp at hb
 |cons h _ ih=>
  cases i with
  |zero=>simp at hb;subst hb;exact⟨_,by simp,h⟩
  |succ i=>simp at hb;simpa using ih hb
theorem getl {as:List α}{bs:List β}(h:L2 R as bs){i:Nat}{a:α}(ha:as[i]? =some a): ∃b,bs[i]? =some b/\R a b:=by
 induction h generalizing i with
 |nil=>simp at ha
 |cons h _ ih=>
  cases i with
  |zero=>simp at ha;subst ha;exact⟨_,by simp,h⟩
  |succ i=>simp at ha;simpa using ih ha
theorem append {as as':List α}{bs bs':List β}(h:L2 R as bs)(k:L2 R as' bs'):L2 R (as++as') (bs++bs'):=by
 induction h with
 |nil=>exact k
 |cons h _ ih=>exact .cons h ih
theorem take {as:List α}{bs:List β}(h:L2 R as bs)(n:Nat):L2 R (as.take n) (bs.take n):=by
 induction h generalizing n with
 |nil=>simpa using L2.nil
 |cons h _ ih=>cases n with
  |zero=>exact .nil
  |succ n=>exact .cons h (ih n)
theorem drop {as:List α}{bs:List β}(h:L2 R as bs)(n:Nat):L2 R (as.drop n) (bs.drop n):=by
 induction h generalizing n with
 |nil=>simpa using L2.nil
 |cons h k ih=>cases n with
  |zero=>exact .cons h k
  |succ n=>exact ih n
theorem set {as:List α}{bs:List β}(h:L2 R as bs)(n:Nat){a:α}{b:β}(hr:R a b):L2 R (as.set n a) (bs.set n b):=by
 induction h generalizing n with
 |nil=>simpa using L2.nil
 |cons h k ih=>cases n with
  |zero=>exact .cons hr k
  |succ n=>exact .cons h (ih n)
theorem mem {as:List α}{bs:List β}(h:L2 R as bs){a:α}(ha:a∈as): ∃b,b∈bs/\R a b:=by
 induction h with
 |nil=>cases ha
 |cons h _ ih=>
  cases ha with
  |head=>exact⟨_,.head _,h⟩
  |tail _ ha=>obtain⟨b,hb,hr⟩:=ih ha;exact⟨b,.tail _ hb,hr⟩
end L2
inductive PV where
 |bool (b:Bool)
 |int (k:IntKind) (n:Int)
 |str (s:ByteArray)
 |agg (cs:List PV)
 |sl (rows:List (List PV))
 |fn (f:Fn) (first caps:List PV)
 |nilp
 |nilf
 |ptr (cells:List PV)
 |raw (u:Value)
def PV.one:PV->Bool
 | .agg _=>false
 |_=>true
def PV.cells:PV->List PV
 | .agg cs=>cs
 |p=>[p]
def mJ (w:World)(a:Addr)(v:Value):Prop:=w.cell? a=some v/\w.frozen? a=false
inductive Rep (w:World)(Z:Nat->Prop):Value->PV->Prop
 |bool (b):Rep w Z (.bool b) (.bool b)
 |int (k n):Rep w Z (.int k n) (.int k n)
 |str (s):Rep w Z (.string s) (.str s)
 |agg (vs:List Value) (cs:List PV):L2 (Rep w Z) vs cs->(∀p∈cs,p.one=true)->Rep w Z (.agg vs.toArray) (.agg cs)
 |nilsl:Rep w Z (.slice none 0 0) (.sl [])
 |slE (a:Addr) (cap:Nat):cap<=maxLen->Rep w Z (.slice (some a) 0 cap) (.sl [])
 |sl (b off cap sz:Nat) (rows:List (List PV)) (xs:List Value):Z b->b<w.heap.size->(∀r∈rows,r.length=sz)->(∀r∈rows,∀p∈r,p.one=true)->
   (∀j v,xs[j]? =some v->mJ w ⟨b,off+j,none⟩ v)->rows.length<=cap->cap<=maxLen->L2 (Rep w Z) xs rows.flatten->
   Rep w Z (.slice (some ⟨b,off,none⟩) rows.length cap) (.sl rows)
 |fn (f:Fn) (vs us:List Value) (first caps:List PV):L2 (Rep w Z) vs first->L2 (Rep w Z) us caps->Rep w Z (.func f vs.toArray us.toArray) (.fn f first caps)
 |nilp:Rep w Z (.pointer none) .nilp
 |nilf:Rep w Z .nilFunc .nilf
 |ptr (b o:Nat) (cells:List PV) (xs:List Value):Z b->b<w.heap.size->(∀p∈cells,p.one=true)->(∀j v,xs[j]? =some v->mJ w ⟨b,o+j,none⟩ v)->L2 (Rep w Z) xs cells->Rep w Z (.pointer (some ⟨b,o,none⟩)) (.ptr cells)
 |raw (u:Value):u.oneCell'=true->Rep w Z u (.raw u)
theorem w7 {w w':World}{a:Addr}(h:w'.heap[a.block]? =w.heap[a.block]?):w'.cell? a=w.cell? a:=World.cell?_of_block h
theorem mJ.keep {w w':World}{a:Addr}{v:Value}(h:w'.heap[a.block]? =w.heap[a.block]?)(hs:mJ w a v):mJ w' a v:=⟨by rw[w7 (w:=w) h];exact hs.1,by unfold World.frozen?;rw[h];exact hs.2⟩
theorem bY {w:World}{b o:Nat}{v:Value}{cur:Array Value}{t:TypeId}(h:w.heap[b]? =some (.cells cur t (0,0)))(hc:w.cell? ⟨b,o,none⟩=some v):mJ w ⟨b,o,none⟩ v:=⟨hc,by unfold World.frozen?;simp[h]⟩
theorem rZ {w w':World}{b:Nat}(hb:b<w.heap.size)(h:w'.heap[b]? =w.heap[b]?):b<w'.heap.size:=by
 have:w.heap[b]? =some w.heap[b]:=Dt hb;rw[this]at h;exact(DR.1 h).1
section
variable {w w':World}{Z Z':Nat->Prop}
theorem Rep.mono (h: ∀b,Z b->b<w.heap.size->Z' b/\w'.heap[b]? =w.heap[b]?){v:Value}{p:PV}(hr:Rep w Z v p):Rep w' Z' v p:=by
 refine Rep.rec (motive_1:=λv p _=>Rep w' Z' v p) (motive_2:=λvs ps _=>L2 (Rep w' Z') vs ps) ?_ ?_ ?_ ?_ ?_ ?_ ?_ ?_ ?_ ?_ ?_ ?_ ?_ ?_ hr;·exact λb=> .bool b
 ·exact λk n=> .int k n
 ·exact λs=> .str s
 ·exact λvs cs _ h1 ih=> .agg vs cs ih h1
 ·exact .nilsl
 ·exact λa cap hc=> .slE a cap hc
 ·intro b off cap sz rows xs hz hb h1 h2 h3 h4 h5 _ ih;obtain⟨hz',he⟩:=h b hz hb;exact .sl b off cap sz rows xs hz' (rZ hb he) h1 h2 (λj v hj=>(h3 j v hj).keep he) h4 h5 ih
 ·exact λf vs us first caps _ _ ih1 ih2=> .fn f vs us first caps ih1 ih2
 ·exact .nilp
 ·exact .nilf
 ·intro b o cells xs hz hb h1 h2 _ ih;obtain⟨hz',he⟩:=h b hz hb;exact .ptr b o cells xs hz' (rZ hb he) h1 (λj v hj=>(h2 j v hj).keep he) ih
 ·exact λu hu=> .raw u hu
 ·exact .nil
 ·exact λ_ _ ih1 ih2=> .cons ih1 ih2
theorem Rep.monoL (h: ∀b,Z b->b<w.heap.size->Z' b/\w'.heap[b]? =w.heap[b]?){vs:List Value}{ps:List PV}(hr:L2 (Rep w Z) vs ps):L2 (Rep w' Z') vs ps:=
 hr.imp λ_ _ hp=>hp.mono h
theorem cells_one {v:Value}(h:v.oneCell'=true):v.cells.toList=[v]:=by
 cases v<;>first|rfl|(simp[Value.oneCell']at h)
theorem Rep.one {v:Value}{p:PV}(hr:Rep w Z v p)(h:p.one=true):v.oneCell'=true:=by
 cases hr<;>first|rfl|assumption|(simp[PV.one]at h)
theorem Rep.cells {v:Value}{p:PV}(hr:Rep w Z v p):L2 (Rep w Z) v.cells.toList p.cells:=by
 cases hr with
 |agg vs cs h _=>simpa[Value.cells,PV.cells]using h
 |raw _ hu=>rw[cells_one hu];exact .cons (.raw _ hu) .nil
 |_=>exact .cons (by first|exact .bool _|exact .int _ _|exact .str _|exact .nilsl|(apply Rep.slE;assumption)|(apply Rep.sl<;>assumption)|(apply Rep.ptr<;>assumption)|(apply Rep.fn<;>assumption)|exact .nilp|exact .nilf) .nil
theorem Rep.cells_one {v:Value}{p:PV}(hr:Rep w Z v p): ∀q∈p.cells,q.one=true:=by
 cases hr with
 |agg vs cs h h1=>simpa[PV.cells]using h1
 |_=>simp[PV.cells,PV.one]
end
inductive Own where
 |sl (e:TypeId) (sz:Nat) (fr:Bool) (rows:List (List PV))
 |box (fr:Bool) (row:List PV)
 |fam (e:TypeId) (sz:Nat) (fr:Bool) (l:List (Value×List (List PV)))
 |mp (fr:Bool) (b:Option (List Nat×Nat)) (l:List (Value×PV))
 |it (m since:Nat) (seen:Array Nat) (last:Nat)
 |sit (s:ByteArray) (pos:Nat)
def ax:Value->Option Nat
 | .slice (some a) _ _=>some a.block
 | .pointer (some a)=>some a.block
 | .map (some b)=>some b
 |_=>none
def VB (v:Value)(g:Nat):Prop:=ax v=some g∨∃vs:List Value,v= .tuple vs.toArray/\∃u∈vs,ax u=some g
theorem VB.slice {a:Option Addr}{n m g:Nat}:VB (.slice a n m) g↔ax (.slice a n m)=some g:=by simp[VB]
theorem VB.pointer {a:Option Addr}{g:Nat}:VB (.pointer a) g↔ax (.pointer a)=some g:=by simp[VB]
theorem VB.of {v:Value}{g:Nat}(h:ax v=some g):VB v g:= .inl h
def dy (w:World)(Z:Nat->Prop)(v:Value)(e:TypeId)(sz:Nat)(rows:List (List PV)):Prop:=
 ∃xs,w.ownsRow 0 e sz v rows.length xs/\L2 (Rep w Z) xs rows.flatten/\(∀r∈rows,r.length=sz)/\(∀r∈rows,∀p∈r,p.one=true)
def ar (w:World)(Z:Bool->Nat->Prop)(v:Value):Own->Prop
 | .sl e sz fr rows=>dy w (Z fr) v e sz rows
 | .box fr row=> ∃g t cur,v= .pointer (some ⟨g,0,none⟩)/\w.heap[g]? =some (.cells cur t (0,0))/\L2 (Rep w (Z fr)) cur.toList row/\∀p∈row,p.one=true
 | .fam e sz fr l=>v= .tuple (l.map (·.1)).toArray/\(∀p∈l,dy w (Z fr) p.1 e sz p.2)/\∀(i j:Nat) (p q:Value×List (List PV)) (g:Nat),l[i]? =some p->l[j]? =some q->ax p.1=some g->ax q.1=some g->i=j
 | .mp fr b l=> ∃g es clock,v= .map (some g)/\w.heap[g]? =some (.map es clock)/\L2 (λ(e:MapEntry) p=>e.key=p.1/\Rep w (Z fr) e.val p.2) es.toList l/\(∀e∈es.toList,e.born<clock)/\(es.toList.map (·.born)).Nodup/\(∀p∈l,p.2.one=true)/\(b=none∨b=some (es.toList.map (·.born),clock))
 | .it m since seen last=> ∃g,v= .pointer (some ⟨g,0,none⟩)/\w.heap[g]? =some (.mapIter (some m) since seen last)
 | .sit s pos=> ∃g,v= .pointer (some ⟨g,0,none⟩)/\w.heap[g]? =some (.stringIter s pos)
theorem j8 {v:Value}{g:Nat}{w:World}{b e sz n:Nat}{xs:List Value}(h:w.ownsRow b e sz v n xs):ax v=v.ownBlock:=by
 rcases h.2 with ⟨rfl,_⟩|⟨g,cap,cur,rfl,_⟩<;>rfl
theorem sM {v:Value}{g:Nat}{w:World}{b e sz n:Nat}{xs:List Value}(h:w.ownsRow b e sz v n xs):VB v g↔v.ownBlock=some g:=by
 rcases h.2 with ⟨rfl,_⟩|⟨g,cap,cur,rfl,_⟩<;>simp[VB,ax,Value.ownBlock]
theorem B7 {v:Value}{w:World}{b e sz n:Nat}{xs:List Value}(h:w.ownsRow b e sz v n xs)(g:Nat):VB v g=(v.ownBlock=some g):=propext (sM h)
theorem rB {v:Value}{g:Nat}{w:World}{b e sz n:Nat}{xs:List Value}(h:w.ownsRow b e sz v n xs):VB v g↔ax v=some g:=by
 rw[sM h,j8 (g:=g) h]
theorem dy.lt {w:World}{Z:Nat->Prop}{v:Value}{e:TypeId}{sz:Nat}{rows:List (List PV)}(h:dy w Z v e sz rows){g:Nat}(hg:VB v g):g<w.heap.size:=by
 obtain⟨xs,ho,_⟩:=h;exact(ho.lt g ((sM ho).1 hg)).2
theorem ar.lt {w:World}{Z:Bool->Nat->Prop}{v:Value}{c:Own}(h:ar w Z v c){g:Nat}(hg:VB v g):g<w.heap.size:=by
 cases c with
 |sl e sz fr rows=>exact dy.lt h hg
 |box fr row=>
  obtain⟨g',t,cur,rfl,hh,_⟩:=h;simp[VB,ax]at hg;subst hg;exact(DR.1 hh).1
 |fam e sz fr l=>
  obtain⟨rfl,h,_⟩:=h;rcases hg with hg|⟨vs,hv,u,hu,hg⟩;·simp[ax]at hg
  ·simp at hv;subst hv;obtain⟨p,hp,rfl⟩:=DF.1 hu;exact(h p hp).lt (.inl hg)
 |mp fr b l=>
  obtain⟨g',es,clock,rfl,hh,_⟩:=h;simp[VB,ax]at hg;subst hg;exact(DR.1 hh).1
 |it m since seen last=>
  obtain⟨g',rfl,hh⟩:=h;simp[VB,ax]at hg;subst hg;exact(DR.1 hh).1
 |sit s pos=>
  obtain⟨g',rfl,hh⟩:=h;simp[VB,ax]at hg;subst hg;exact(DR.1 hh).1
theorem rT {w w':World}{base e sz n:Nat}{v:Value}{xs:List Value}(h:w.ownsRow base e sz v n xs)(hk: ∀g,VB v g->w'.heap[g]? =w.heap[g]?):w'.ownsRow base e sz v n xs:=by
 refine⟨h.1,?_⟩;rcases h.2 with h2|⟨g,cap,cur,rfl,hb,hh,r⟩;·exact .inl h2
 ·exact .inr ⟨g,cap,cur,rfl,hb,(hk g (.inl Y)).trans hh,r⟩
theorem dy.mono {w w':World}{Z Z':Nat->Prop}{v:Value}{e:TypeId}{sz:Nat}{rows:List (List PV)}(h:dy w Z v e sz rows)(hk: ∀g,VB v g->w'.heap[g]? =w.heap[g]?)
  (hz: ∀b,Z b->b<w.heap.size->Z' b/\w'.heap[b]? =w.heap[b]?):dy w' Z' v e sz rows:=by
 obtain⟨xs,ho,hr,h1,h2⟩:=h;exact⟨xs,rT ho hk,Rep.monoL hz hr,h1,h2⟩
theorem ar.mono {w w':World}{Z Z':Bool->Nat->Prop}{v:Value}{c:Own}(h:ar w Z v c)(hk: ∀g,VB v g->w'.heap[g]? =w.heap[g]?)
  (hz: ∀f b,Z f b->b<w.heap.size->Z' f b/\w'.heap[b]? =w.heap[b]?):ar w' Z' v c:=by
 cases c with
 |sl e sz fr rows=>exact dy.mono h hk (hz fr)
 |box fr row=>
  obtain⟨g',t,cur,rfl,hh,hr,h1⟩:=h;exact⟨g',t,cur,rfl,(hk g' (.inl Y)).trans hh,Rep.monoL (hz fr) hr,h1⟩
 |fam e sz fr l=>
  obtain⟨rfl,h,h1⟩:=h;exact⟨rfl,λp hp=>(h p hp).mono (λg hg=>by
   obtain⟨xs,ho,_⟩:=h p hp;exact hk g (.inr ⟨_,rfl,p.1,DF.2 ⟨p,hp,rfl⟩,(rB ho).1 hg⟩)) (hz fr),h1⟩
 |mp fr b l=>
  obtain⟨g',es,clock,rfl,hh,hr,h1⟩:=h;exact⟨g',es,clock,rfl,(hk g' (.inl Y)).trans hh,hr.imp λ_ _ h=>⟨h.1,h.2.mono (hz fr)⟩,h1⟩
 |it m since seen last=>
  obtain⟨g',rfl,hh⟩:=h;exact⟨g',rfl,(hk g' (.inl Y)).trans hh⟩
 |sit s pos=>
  obtain⟨g',rfl,hh⟩:=h;exact⟨g',rfl,(hk g' (.inl Y)).trans hh⟩
inductive SV where
 |val (fr:Bool) (p:PV)
 |nilsl
 |ref (o:Nat)
 |optr (o i off st:Nat)
 |fptr (fr:Bool) (cells:List PV)
 |fix (v:Value) (p:PV)
 |fref (f:FuncId) (o:Nat)
 |eq (u:Value) (o:Nat)
 |tupB (ag:Bool) (l:List SV)
@[match_pattern] abbrev SV.tup (l:List SV):SV:= .tupB false l
def B9 (ag:Bool)(a:Array Value):Value:=match ag with
 |true=> .agg a
 |false=> .tuple a
def ay (w:World)(Z:Bool->Nat->Prop)(φ:Nat->Value)(v:Value):SV->Prop
 | .val fr p=>Rep w (Z fr) v p
 | .nilsl=>v= .slice none 0 0
 | .ref o=>v=φ o
 | .optr o i off st=> ∃g,ax (φ o)=some g/\v= .pointer (some ⟨g,i*st+off,none⟩)
 | .fptr fr cells=> ∃b o xs,v= .pointer (some ⟨b,o,none⟩)/\Z fr b/\b<w.heap.size/\L2 (Rep w (Z fr)) xs cells/\(∀p∈cells,p.one=true)/\∀j x,xs[j]? =some x->mJ w ⟨b,o+j,none⟩ x
 | .fix u p=>v=u/\Rep w (Z false) v p
 | .fref f o=>v= .func (.func f) #[φ o] #[]
 | .eq u o=>φ o=u
 | .tupB _ _=>False
def aU (w:World)(Z:Bool->Nat->Prop)(φ:Nat->Value)(v:Value):SV->Prop
 | .tupB ag l=> ∃vs:List Value,v=B9 ag vs.toArray/\L2 (ay w Z φ) vs l
 |s=>ay w Z φ v s
def SV.in1 (U:Nat->Prop):SV->Prop
 | .ref o=>U o
 | .optr o _ _ _=>U o
 | .fref _ o=>U o
 | .eq _ o=>U o
 | .tupB _ _=>False
 |_=>True
def SV.inU (U:Nat->Prop):SV->Prop
 | .tupB _ l=> ∀s∈l,s.in1 U
 |s=>s.in1 U
theorem ay.mono {w w':World}{Z Z':Bool->Nat->Prop}{φ φ':Nat->Value}{v:Value}{s:SV}{U:Nat->Prop}(h:ay w Z φ v s)(hl:s.in1 U)
  (hz: ∀f b,Z f b->b<w.heap.size->Z' f b/\w'.heap[b]? =w.heap[b]?) (hφ: ∀o,U o->φ' o=φ o):ay w' Z' φ' v s:=by
 cases s with
 |val fr p=>exact Rep.mono (hz fr) h
 |nilsl=>exact h
 |ref o=>simp only[ay]at h⊢;rw[hφ o hl];exact h
 |optr o i off st=>simp only[ay]at h⊢;rw[hφ o hl];exact h
 |fptr fr cells=>
  obtain⟨b,o,xs,rfl,hb,hlt,hr,h1,hc⟩:=h;obtain⟨hz',he⟩:=hz fr b hb hlt;exact⟨b,o,xs,rfl,hz',rZ hlt he,Rep.monoL (hz fr) hr,h1,λj x hj=>(hc j x hj).keep he⟩
 |fix u p=>exact⟨h.1,Rep.mono (hz false) h.2⟩
 |fref f o=>simp only[ay]at h⊢;rw[hφ o hl];exact h
 |eq u o=>simp only[ay]at h⊢;rw[hφ o hl];exact h
 |tupB ag l=>exact h
theorem aU.mono {w w':World}{Z Z':Bool->Nat->Prop}{φ φ':Nat->Value}{v:Value}{s:SV}{U:Nat->Prop}(h:aU w Z φ v s)(hl:s.inU U)
  (hz: ∀f b,Z f b->b<w.heap.size->Z' f b/\w'.heap[b]? =w.heap[b]?) (hφ: ∀o,U o->φ' o=φ o):aU w' Z' φ' v s:=by
 cases s with
 |tupB ag l=>
  obtain⟨vs,rfl,hr⟩:=h;refine⟨vs,rfl,?_⟩;simp only[SV.inU]at hl
  induction hr with
  |nil=>exact .nil
  |cons h _ ih=>exact .cons (ay.mono h (hl _ (.head _)) hz hφ) (ih λs hs=>hl s (.tail _ hs))
 |val fr p=>exact ay.mono (s:= .val fr p) h hl hz hφ
 |nilsl=>exact ay.mono (s:= .nilsl) h hl hz hφ
 |ref o=>exact ay.mono (s:= .ref o) h hl hz hφ
 |optr o i off st=>exact ay.mono (s:= .optr o i off st) h hl hz hφ
 |fptr fr cells=>exact ay.mono (s:= .fptr fr cells) h hl hz hφ
 |fix u p=>exact ay.mono (s:= .fix u p) h hl hz hφ
 |fref f o=>exact ay.mono (s:= .fref f o) h hl hz hφ
 |eq u o=>exact ay.mono (v:=v) (s:= .eq u o) h hl hz hφ
def lk {α:Type}:List (Nat×α)->Nat->Option α
 | [],_=>none
 |(k,v)::l,n=>match Nat.beq k n with
  |true=>some v
  |false=>lk l n
theorem ai {α:Type}(k:Nat)(v:α)(l:List (Nat×α))(n:Nat):lk ((k,v)::l) n=if k=n then some v else lk l n:=by
 by_cases h:k=n;·subst h;simp[lk]
 ·have:Nat.beq k n=false:=by
   cases hb:Nat.beq k n with
   |false=>rfl
   |true=>exact DU (EV hb) h
  simp[lk,this,h]
structure St where
 sl:List (Nat×SV)
 ow:List (Nat×Option Own)
 nx:Nat
structure EnvF where
 slot:Nat->Option SV
 own:Nat->Option Own
def St.f (E:St):EnvF:=⟨lk E.sl,λo=>(lk E.ow o).join⟩
structure Ctx where
 P:Program
 w0:World
 Z0:Nat->Prop
 M:Nat->Prop
 n:Nat
 F:Nat->Prop
 hF: ∀b,w0.heap.size<=b->F b
 lo:Nat
 vs:List Value
 df:List Deferred
def Ctx.of (P:Program)(w0:World)(Z0 M:Nat->Prop)(n:Nat):Ctx:=⟨P,w0,Z0,M,n,λb=>w0.heap.size<=b,λ_ h=>h,0,[],[]⟩
def Ctx.can (K:Ctx)(d:Nat):Bool:=Nat.ble K.lo d&&Nat.blt d K.n
theorem Ctx.can_lt {K:Ctx}{d:Nat}(h:K.can d=true):K.lo<=d/\d<K.n:=by
 simp only[Ctx.can,DJ,Fd]at h;exact⟨Dy h.1,h.2⟩
structure Kept (M:Nat->Prop)(w w':World):Prop where
 os:w'.os=w.os
 tape:w'.tape=w.tape
 output:w'.output=w.output
 size:w.heap.size<=w'.heap.size
 block: ∀k,k<w.heap.size->¬M k->w'.heap[k]? =w.heap[k]?
def Zof (K:Ctx)(V:EnvF)(φ:Nat->Value)(b:Nat):Prop:=
 (K.w0.heap.size<=b∨K.Z0 b)/\∀o c,V.own o=some c->¬VB (φ o) b
def Zf (K:Ctx)(V:EnvF)(φ:Nat->Value)(fr:Bool)(b:Nat):Prop:=Zof K V φ b/\(fr=true->K.F b)
structure RelW (K:Ctx)(V:EnvF)(U:Nat->Prop)(φ:Nat->Value)(a:Act)(w:World):Prop where
 df:a.defers=K.df
 sz:a.tmps.size=K.n
 old: ∀s v,s<K.lo->K.vs[s]? =some v->a.tmps[s]? =some v
 kept:Kept K.M K.w0 w
 own: ∀o c,V.own o=some c->ar w (Zf K V φ) (φ o) c
 mine: ∀o c g,V.own o=some c->VB (φ o) g->K.w0.heap.size<=g∨K.M g
 inU: ∀o c,V.own o=some c->U o
 dis: ∀o o' c c' g,V.own o=some c->V.own o'=some c'->VB (φ o) g->VB (φ o') g->o=o'
 slot: ∀s sv,V.slot s=some sv->∃v,a.tmps.getD s undef=v/\aU w (Zf K V φ) φ v sv
 sin: ∀s sv,V.slot s=some sv->sv.inU U
def Rel (K:Ctx)(E:St)(a:Act)(w:World):Prop:= ∃φ,RelW K E.f (· <E.nx) φ a w
theorem SV.in_mono {s:SV}{U U':Nat->Prop}(h:s.inU U)(hU: ∀o,U o->U' o):s.inU U':=by
 cases s with
 |tupB ag l=>
  intro s hs;have:=h s hs;cases s<;>first|exact hU _ this|exact this
 |ref o=>exact hU _ h
 |optr o i off st=>exact hU _ h
 |fref f o=>exact hU _ h
 |eq u o=>exact hU _ h
 |_=>trivial
theorem RelW.step {K:Ctx}{V V':EnvF}{U U':Nat->Prop}{φ φ':Nat->Value}{a:Act}{w w':World}(h:RelW K V U φ a w)
  (D:Nat->Prop) (C:Nat->Prop)
  (hsl:V'.slot=V.slot) (hU: ∀o,U o->U' o) (hφ: ∀o,U o->φ' o=φ o)
  (hos:w'.os=w.os) (htape:w'.tape=w.tape) (hout:w'.output=w.output) (hsize:w.heap.size<=w'.heap.size)
  (hD: ∀b,b<w.heap.size->¬D b->w'.heap[b]? =w.heap[b]?)
  (hDown: ∀b,b<w.heap.size->D b->∃o c,V.own o=some c/\VB (φ o) b/\C o)
  (hold: ∀o c,V'.own o=some c->¬C o->V.own o=some c)
  (hnew: ∀o c,V'.own o=some c->C o->U' o/\ar w' (Zf K V' φ') (φ' o) c/\∀g,VB (φ' o) g->w.heap.size<=g∨∃o1 c1,V.own o1=some c1/\VB (φ o1) g/\C o1)
  (hdis: ∀o o' c c' g,V'.own o=some c->V'.own o'=some c'->C o->C o'->VB (φ' o) g->VB (φ' o') g->o=o'):
  RelW K V' U' φ' a w':=by
 have hZ: ∀b,Zof K V φ b->b<w.heap.size->Zof K V' φ' b/\w'.heap[b]? =w.heap[b]? :=by
  intro b hb hlt;refine⟨⟨hb.1,?_⟩,hD b hlt λhd=> ?_⟩
  ·intro o c ho hv;by_cases hc:C o
   ·obtain⟨_,_,hbl⟩:=hnew o c ho hc;rcases hbl b hv with hge|⟨o1,c1,ho1,hv1,_⟩;·omega
    ·exact hb.2 o1 c1 ho1 hv1
   ·have ho':=hold o c ho hc;rw[hφ o (h.inU o c ho')]at hv;exact hb.2 o c ho' hv
  ·obtain⟨o,c,ho,hv,_⟩:=hDown b hlt hd;exact hb.2 o c ho hv
 have hZf: ∀f b,Zf K V φ f b->b<w.heap.size->Zf K V' φ' f b/\w'.heap[b]? =w.heap[b]? :=λf b hb hlt=>⟨⟨(hZ b hb.1 hlt).1,hb.2⟩,(hZ b hb.1 hlt).2⟩;have hkeep: ∀o c g,V.own o=some c->¬C o->VB (φ o) g->w'.heap[g]? =w.heap[g]? :=by
  intro o c g ho hc hv;have hlt:=(h.own o c ho).lt hv;refine hD g hlt λhd=> ?_;obtain⟨o1,c1,ho1,hv1,hc1⟩:=hDown g hlt hd;exact hc (h.dis o o1 c c1 g ho ho1 hv hv1▸hc1)
 refine⟨h.df,h.sz,h.old,⟨hos.trans h.kept.os,htape.trans h.kept.tape,hout.trans h.kept.output,Du h.kept.size hsize,?_⟩,?_,?_,?_,?_,?_,?_⟩
 ·intro b hb hm;refine(hD b (Fx hb h.kept.size) λhd=> ?_).trans (h.kept.block b hb hm);obtain⟨o,c,ho,hv,_⟩:=hDown b (Fx hb h.kept.size) hd;rcases h.mine o c b ho hv with hge|hm';·omega
  ·exact hm hm'
 ·intro o c ho;by_cases hc:C o;·exact(hnew o c ho hc).2.1
  ·have ho':=hold o c ho hc;have hr:=h.own o c ho';rw[hφ o (h.inU o c ho')];exact hr.mono (λg hv=>hkeep o c g ho' hc hv) hZf
 ·intro o c g ho hv;by_cases hc:C o
  ·rcases (hnew o c ho hc).2.2 g hv with hge|⟨o1,c1,ho1,hv1,_⟩;·exact .inl (Du h.kept.size hge)
   ·exact h.mine o1 c1 g ho1 hv1
  ·have ho':=hold o c ho hc;rw[hφ o (h.inU o c ho')]at hv;exact h.mine o c g ho' hv
 ·intro o c ho;by_cases hc:C o;·exact(hnew o c ho hc).1
  ·exact hU o (h.inU o c (hold o c ho hc))
 ·intro o o' c c' g ho ho' hv hv';by_cases hc:C o<;>by_cases hc':C o';·exact hdis o o' c c' g ho ho' hc hc' hv hv'
  ·have hoo:=hold o' c' ho' hc';rw[hφ o' (h.inU o' c' hoo)]at hv';rcases (hnew o c ho hc).2.2 g hv with hge|⟨o1,c1,ho1,hv1,hc1⟩;·have:=(h.own o' c' hoo).lt hv';omega
   ·exact DU (h.dis o1 o' c1 c' g ho1 hoo hv1 hv'▸hc1) hc'
  ·have hoo:=hold o c ho hc;rw[hφ o (h.inU o c hoo)]at hv;rcases (hnew o' c' ho' hc').2.2 g hv' with hge|⟨o1,c1,ho1,hv1,hc1⟩;·have:=(h.own o c hoo).lt hv;omega
   ·exact DU (h.dis o1 o c1 c g ho1 hoo hv1 hv▸hc1) hc
  ·have ho1:=hold o c ho hc;have ho2:=hold o' c' ho' hc';rw[hφ o (h.inU o c ho1)]at hv;rw[hφ o' (h.inU o' c' ho2)]at hv';exact h.dis o o' c c' g ho1 ho2 hv hv'
 ·intro s sv hs;rw[hsl]at hs;obtain⟨v,hv,hr⟩:=h.slot s sv hs;exact⟨v,hv,hr.mono (h.sin s sv hs) hZf hφ⟩
 ·intro s sv hs;rw[hsl]at hs;exact SV.in_mono (h.sin s sv hs) hU
theorem RelW.world {K:Ctx}{V:EnvF}{U:Nat->Prop}{φ:Nat->Value}{a:Act}{w w':World}(h:RelW K V U φ a w)(hb:Below w.heap.size w w'):RelW K V U φ a w':=
 h.step (λ_=>False) (λ_=>False) Y (λ_ ho=>ho) (λ_ _=>rfl) hb.os hb.tape hb.output hb.size (λb hlt _=>hb.block b hlt)
  (λ_ _ hd=>hd.elim) (λo c ho _=>ho) (λ_ _ _ hc=>hc.elim) (λ_ _ _ _ _ _ _ hc=>hc.elim)
theorem RelW.put {K:Ctx}{V V':EnvF}{U:Nat->Prop}{φ:Nat->Value}{a:Act}{w:World}(h:RelW K V U φ a w){d:Nat}(hd:K.can d=true){v:Value}{sv:SV}
  (hv:aU w (Zf K V φ) φ v sv) (hl:sv.inU U) (hown:V'.own=V.own) (hslot: ∀s sv',V'.slot s=some sv'->(s=d/\sv'=sv)∨(s≠d/\V.slot s=some sv')):
  RelW K V' U φ (a.put (some d) v) w:=by
 have hZ:Zf K V' φ=Zf K V φ:=(by funext f b;simp only[Zf,Zof,hown]);obtain⟨hlo,hd⟩:=Ctx.can_lt hd;refine⟨h.df,by simp[Act.put,h.sz],?_,h.kept,?_,?_,?_,?_,?_,?_⟩
 ·intro s v' hs hv';have:=h.old s v' hs hv';have hne:d≠s:=(by omega);simp[Act.put,hne,this]
 ·rw[hZ,hown];exact h.own
 ·rw[hown];exact h.mine
 ·rw[hown];exact h.inU
 ·rw[hown];exact h.dis
 ·intro s sv' hs;rw[hZ];rcases hslot s sv' hs with ⟨rfl,rfl⟩|⟨hne,hs'⟩;·exact⟨v,by simp[Act.put,E5,h.sz,hd],hv⟩
  ·obtain⟨u,hu,hr⟩:=h.slot s sv' hs';exact⟨u,by rw[<-hu];simp[Act.put,E5,Ne.symm hne],hr⟩
 ·intro s sv' hs;rcases hslot s sv' hs with ⟨rfl,rfl⟩|⟨hne,hs'⟩;·exact hl
  ·exact h.sin s sv' hs'
theorem RelW.get {K:Ctx}{V:EnvF}{U:Nat->Prop}{φ:Nat->Value}{a:Act}{w:World}(h:RelW K V U φ a w){t:Nat}{sv:SV}(ht:V.slot t=some sv):
  aU w (Zf K V φ) φ (a.eval (.tmp t)) sv:=by
 obtain⟨v,hv,hr⟩:=h.slot t sv ht;have:a.eval (.tmp t)=v:=hv;rw[this];exact hr
end Go.Proofs.YtopcjbahjjhdmaaGreat
namespace Go.Proofs.YtopcjbahjjhdmaaGreat
open Go Go.RowKit
set_option linter.unusedVariables false
set_option linter.unusedSimpArgs false
def cPV:Value->Option PV
 | .bool b=>some (.bool b)
 | .int k n=>some (.int k n)
 | .string s=>some (.str s)
 | .pointer none=>some .nilp
 | .nilFunc=>some .nilf
 |_=>none
def cSV:Value->Option SV
 | .slice none 0 0=>some .nilsl
 |v=>(cPV v).map (.val true)
def EnvF.get (E:EnvF):Operand->Option SV
 | .tmp t=>E.slot t
 | .const v=>cSV v
 | .func f=>some (.val true (.fn (.func f) [] []))
 | .global _=>none
def EnvF.pv (E:EnvF):SV->Option PV
 | .val _ p=>some p
 | .fix _ p=>some p
 | .nilsl=>some (.sl [])
 | .ref o=>match E.own o with
  |some (.sl _ _ _ rows)=>some (.sl rows)
  |_=>none
 |_=>none
def SV.ff:SV->Option (Bool×PV)
 | .val fr p=>some (fr,p)
 | .fix _ p=>some (false,p)
 | .nilsl=>some (true,.sl [])
 |_=>none
def mkv (fr:Bool)(p:PV):SV:=
 match p with
 | .bool b=> .val true (.bool b)
 | .int k n=> .val true (.int k n)
 | .str s=> .val true (.str s)
 | .nilp=> .val true .nilp
 | .nilf=> .val true .nilf
 | .raw u=> .val true (.raw u)
 |p=> .val fr p
def Own.at_:Own->Nat->Nat->Nat->Option (Bool×List PV)
 | .sl _ sz fr rows,i,off,st=>match Nat.beq sz st,rows[i]? with
  |true,some r=>some (fr,r.drop off)
  |_,_=>none
 | .box fr row,i,off,st=>match i with
  |0=>some (fr,row.drop off)
  |_=>none
 | .fam ..,_,_,_=>none
 | .mp ..,_,_,_=>none
 | .it ..,_,_,_=>none
 | .sit ..,_,_,_=>none
def EnvF.cellsAt (E:EnvF):SV->Option (Bool×List PV)
 | .fptr fr cs=>some (fr,cs)
 | .val fr (.ptr cs)=>some (fr,cs)
 | .fix _ (.ptr cs)=>some (false,cs)
 | .optr o i off st=>(E.own o).bind λc=>c.at_ i off st
 |_=>none
def vf (ud:Option TypeDesc)(op:BinOp)(p q:PV):Option PV:=
 match p,q with
 | .int k a,.int k' b=>
  match op with
  | .shl=>if b<0 then none else some (.int k (k.wrap (a*2 ^ (min b.toNat k.bits))))
  | .shr=>if b<0 then none else some (.int k (a.fdiv (2 ^ (min b.toNat k.bits))))
  |_=>if k=k' then(match op with
   | .add=>some (.int k (k.wrap (a+b)))
   | .sub=>some (.int k (k.wrap (a-b)))
   | .mul=>some (.int k (k.wrap (a*b)))
   | .quo=>if b=0 then none else some (.int k (k.wrap (a.tdiv b)))
   | .rem=>if b=0 then none else some (.int k (a.tmod b))
   | .and=>some (.int k (k.wrap (BitVec.ofInt k.bits a &&& BitVec.ofInt k.bits b).toNat))
   | .or=>some (.int k (k.wrap (BitVec.ofInt k.bits a ||| BitVec.ofInt k.bits b).toNat))
   | .xor=>some (.int k (k.wrap (BitVec.ofInt k.bits a ^^^ BitVec.ofInt k.bits b).toNat))
   | .andNot=>some (.int k (k.wrap (BitVec.ofInt k.bits a &&& ~~~ BitVec.ofInt k.bits b).toNat))
   | .eql=>some (.bool (decide (a=b)))
   | .neq=>some (.bool (decide (a≠b)))
   | .lss=>some (.bool (decide (a<b)))
   | .leq=>some (.bool (decide (a<=b)))
   | .gtr=>some (.bool (decide (a > b)))
   | .geq=>some (.bool (decide (a>=b)))
   |_=>none)else none
 | .bool a,.bool b=>match op,ud with
  | .eql,some .bool=>some (.bool (a==b))
  | .neq,some .bool=>some (.bool (!(a==b)))
  |_,_=>none
 | .str a,.str b=>match op with
  | .eql=>some (.bool (a.toList==b.toList))
  | .neq=>some (.bool (!(a.toList==b.toList)))
  |_=>none
 |_,_=>none
def CA (op:UnOp)(p:PV):Option PV:=
 match op,p with
 | .neg,.int k n=>some (.int k (k.wrap (0-n)))
 | .not,.bool b=>some (.bool (!b))
 |_,_=>none
def r8:TypeDesc->Bool
 | .struct _| .array _ _=>true
 |_=>false
def iq (P:Program)(t:TypeId)(cs:List PV):Option PV:=
 match P.underlying t,P.info? t with
 |some d,some i=>match r8 d with
  |true=>match Nat.beq cs.length i.size with
   |true=>some (.agg cs)
   |false=>match Nat.ble i.size cs.length with
    |true=>some (.agg (cs.take i.size))
    |false=>none
  |false=>match cs with
   |c::_=>some c
   | []=>none
 |_,_=>none
def nP (P:Program)(s:TypeId)(f:Nat):Option Field:=
 match P.underlying s with
 |some (.struct fs)=>fs[f]?
 |_=>none
def putCells:List PV->Nat->List PV->List PV
 |cs,_,[]=>cs
 |cs,n,p::ps=>putCells (cs.set n p) (n+1) ps
def k8 (P:Program)(fs:Array Field):Option (List (Nat×Nat)):=fs.toList.mapM (λf=>(P.info? f.type).map λi=>(f.offset,i.size))
def mF (pl:List (Nat×Nat))(cs:List PV):List (Nat×PV)->Option (List PV)
 | []=>some cs
 |(i,p)::rest=>match pl[i]? with
  |some (off,size)=>match Nat.beq p.cells.length size,Nat.ble (off+p.cells.length) cs.length with
   |true,true=>mF pl (putCells cs off p.cells) rest
   |_,_=>none
  |none=>none
def gg:List Value->Option (List PV)
 | []=>some []
 |v::vs=>match(match v with| .slice none 0 0=>some (PV.sl [])| .map none=>some (PV.raw (.map none))|v=>cPV v),gg vs with
  |some p,some ps=>some (p::ps)
  |_,_=>none
def fq (E:EnvF):List (Nat×Operand)->Option (Bool×List (Nat×PV))
 | []=>some (true,[])
 |(i,x)::rest=>match E.get x,fq E rest with
  |some sv,some (f,l)=>match sv.ff with
   |some (fr,p)=>some (fr&&f,(i,p)::l)
   |none=>none
  |_,_=>none
def jN (P:Program)(E:EnvF)(t:TypeId)(parts:List (Nat×Operand)):Option (Bool×PV):=
 match P.underlying t,P.info? t with
 |some (.struct fs),some i=>match i.zero with
  |some z=>match gg z.cells.toList,fq E parts with
   |some zs,some (f,ps)=>match k8 P fs with
    |some pl=>match mF pl zs ps with
     |some cs=>some (f,.agg cs)
     |none=>none
    |none=>none
   |_,_=>none
  |none=>none
 |_,_=>none
def gL (V:EnvF):SV->Bool
 | .val _ p=>p.one
 | .nilsl=>true
 | .ref q=>match V.own q with
  |some (.sl ..)=>true
  |_=>false
 |_=>false
def qm:List SV->Nat->List SV->List SV
 |cs,_,[]=>cs
 |cs,n,s::ss=>qm (cs.set n s) (n+1) ss
def e8 (V:EnvF)(pl:List (Nat×Nat)):List SV->List (Nat×Operand)->Option (List SV)
 |cs,[]=>some cs
 |cs,(i,x)::rest=>match V.get x,pl[i]? with
  |some sv,some (off,1)=>match gL V sv,Nat.blt off cs.length with
   |true,true=>e8 V pl (cs.set off sv) rest
   |_,_=>none
  |some (.tupB true l2),some (off,n)=>match l2.all (gL V),Nat.beq l2.length n,Nat.ble (off+n) cs.length with
   |true,true,true=>e8 V pl (qm cs off l2) rest
   |_,_,_=>none
  |_,_=>none
def f9:List Value->Option (List SV)
 | []=>some []
 |v::vs=>match(match v with| .slice none 0 0=>some SV.nilsl| .map none=>some (SV.val true (.raw (.map none)))|v=>(cPV v).map (SV.val true ·)),f9 vs with
  |some p,some ps=>some (p::ps)
  |_,_=>none
def fB (P:Program)(V:EnvF)(t:TypeId)(parts:List (Nat×Operand)):Option (List SV):=
 match P.underlying t,P.info? t with
 |some (.struct fs),some i=>match i.zero with
  |some z=>match f9 z.cells.toList,k8 P fs with
   |some zs,some pl=>e8 V pl zs parts
   |_,_=>none
  |none=>none
 |_,_=>none
def du (E:EnvF):List Operand->Option (List PV)
 | []=>some []
 |x::rest=>match E.get x,du E rest with
  |some sv,some l=>match sv.ff with
   |some (_,p)=>some (p::l)
   |none=>none
  |_,_=>none
def ev (P:Program)(E:EnvF)(o:Oper):Option SV:=
 match o.op with
 | .move x=>E.get x
 | .assign x=>E.get x
 | .pick c a b=>match E.get c with
  |some (.val _ (.bool true))=>E.get a
  |some (.val _ (.bool false))=>E.get b
  |_=>none
 | .binOp op t x y _=>match E.get x,E.get y with
  |some (.val _ p),some (.val _ q)=>(vf (P.underlying t) op p q).map (.val true)
  |_,_=>none
 | .unOp op _ x=>match E.get x with
  |some (.val _ p)=>(CA op p).map (.val true)
  |_=>none
 | .load t x=>match E.get x with
  |some sv=>match E.cellsAt sv with
   |some (fr,cs)=>(iq P t cs).map (mkv fr)
   |none=>none
  |none=>none
 | .fieldAddr s x f=>match nP P s f with
  |some fd=>match P.info? fd.type with
   |some i=>match Nat.beq i.size 0,E.get x with
    |false,some (.fptr fr cs)=>match Nat.ble fd.offset cs.length with
     |true=>some (.fptr fr (cs.drop fd.offset))
     |false=>none
    |false,some (.val fr (.ptr cs))=>match Nat.ble fd.offset cs.length with
     |true=>some (.fptr fr (cs.drop fd.offset))
     |false=>none
    |false,some (.fix _ (.ptr cs))=>match Nat.ble fd.offset cs.length with
     |true=>some (.fptr false (cs.drop fd.offset))
     |false=>none
    |false,some (.optr o i off st)=>some (.optr o i (off+fd.offset) st)
    |_,_=>none
   |none=>none
  |none=>none
 | .field s x f=>match nP P s f with
  |some fd=>match E.get x with
   |some (.val fr (.agg cs))=>match P.underlying fd.type,P.info? fd.type with
    |some d,some i=>match r8 d with
     |true=>match Nat.ble (fd.offset+i.size) cs.length with
      |true=>some (.val fr (.agg ((cs.drop fd.offset).take i.size)))
      |false=>none
     |false=>(cs[fd.offset]?).map (mkv fr)
    |_,_=>none
   |_=>none
  |none=>none
 | .extract x i=>match E.get x with
  |some (.tup l)=>l[i]?
  |_=>none
 | .build t parts=>(jN P E t parts.toList).map λx=> .val x.1 x.2
 | .makeFunc fn first caps=>match du E first.toList,du E caps.toList with
  |some l,some m=>some (.val false (.fn fn l m))
  |_,_=>none
 | .convert src dst x=>match E.get x with
  |some (.val _ (.int _ n))=>match P.underlying src,P.underlying dst with
   |some (.int _),some (.int k)=>some (.val true (.int k (k.wrap n)))
   |_,_=>none
  |_=>none
 | .call { callee:= .builtin .len,args,argTypes }=>match args.toList,argTypes.toList with
  | [x],[t]=>match E.get x with
   |some sv=>match P.underlying t with
    |some (.slice _)=>match E.pv sv with
     |some (.sl rows)=>some (.val true (.int .i64 rows.length))
     |_=>none
    |some .string=>match sv with
     | .val _ (.str s)=>some (.val true (.int .i64 s.size))
     |_=>none
    |_=>none
   |none=>none
  |_,_=>none
 | .call { callee:= .builtin .max,args,argTypes:=_ }=>match args.toList with
  | [x,y]=>match E.get x,E.get y with
   |some (.val _ (.int k a)),some (.val _ (.int _ b))=>some (.val true (.int k (max a b)))
   |_,_=>none
  |_=>none
 | .call { callee:= .builtin .min,args,argTypes:=_ }=>match args.toList with
  | [x,y]=>match E.get x,E.get y with
   |some (.val _ (.int k a)),some (.val _ (.int _ b))=>some (.val true (.int k (min a b)))
   |_,_=>none
  |_=>none
 | .nilCheck x=>match E.get x with
  |some (.optr o i off st)=>some (.optr o i off st)
  |some (.fptr fr cs)=>some (.fptr fr cs)
  |_=>none
 |_=>none
section
variable {K:Ctx}{E:EnvF}{U:Nat->Prop}{φ:Nat->Value}{a:Act}{w:World}
theorem sI {Z:Nat->Prop}{v:Value}{p:PV}(h:cPV v=some p):Rep w Z v p:=by
 unfold cPV at h;split at h<;>first|(cases h;done)|(obtain rfl:=D3 h;first|exact .bool _|exact .int _ _|exact .str _|exact .nilp|exact .nilf)
theorem ae (h:RelW K E U φ a w){x:Operand}{sv:SV}(hx:E.get x=some sv):aU w (Zf K E φ) φ (a.eval x) sv/\sv.inU U:=by
 cases x with
 |tmp t=>exact⟨h.get hx,h.sin t sv hx⟩
 |const v=>
  simp only[EnvF.get,cSV]at hx;split at hx
  ·obtain rfl:=D3 hx;exact⟨rfl,trivial⟩
  ·simp only[DY]at hx;obtain⟨p,hp,rfl⟩:=hx;exact⟨sI hp,trivial⟩
 |global g=>simp[EnvF.get]at hx
 |func f=>
  simp only[EnvF.get,D6]at hx;subst hx;exact⟨Rep.fn (.func f) [] [] [] [] .nil .nil,trivial⟩
theorem bC (h:RelW K E U φ a w){x:Operand}{sv:SV}{fr:Bool}{p:PV}(hx:E.get x=some sv)(hp:sv.ff=some (fr,p)):Rep w (Zf K E φ fr) (a.eval x) p:=by
 obtain⟨hr,_⟩:=ae h hx;cases sv with
 |val f q=>simp only[SV.ff,D6,Prod.mk.injEq]at hp;obtain⟨rfl,rfl⟩:=hp;exact hr
 |fix u q=>simp only[SV.ff,D6,Prod.mk.injEq]at hp;obtain⟨rfl,rfl⟩:=hp;exact hr.2
 |nilsl=>simp only[SV.ff,D6,Prod.mk.injEq]at hp;obtain⟨rfl,rfl⟩:=hp;simp only[aU,ay]at hr;rw[hr];exact .nilsl
 |_=>simp[SV.ff]at hp
theorem gQ {Z:Bool->Nat->Prop}{fr:Bool}{v:Value}{p:PV}(h:Rep w (Z fr) v p):aU w Z φ v (mkv fr p)/\(mkv fr p).inU U:=by
 cases h with
 |bool b=>exact⟨Rep.bool b,trivial⟩
 |int k n=>exact⟨Rep.int k n,trivial⟩
 |str s=>exact⟨Rep.str s,trivial⟩
 |nilp=>exact⟨Rep.nilp,trivial⟩
 |ptr b o cells xs h1 h2 h3 h4 h5=>exact⟨Rep.ptr b o cells xs h1 h2 h3 h4 h5,trivial⟩
 |nilf=>exact⟨Rep.nilf,trivial⟩
 |raw _ hu=>exact⟨Rep.raw _ hu,trivial⟩
 |agg vs cs h1 h2=>exact⟨Rep.agg vs cs h1 h2,trivial⟩
 |nilsl=>exact⟨Rep.nilsl,trivial⟩
 |slE a cap hc=>exact⟨Rep.slE a cap hc,trivial⟩
 |sl b off cap sz rows xs h1 h2 h3 h4 h5 h6 h7 h8=>exact⟨Rep.sl b off cap sz rows xs h1 h2 h3 h4 h5 h6 h7 h8,trivial⟩
 |fn f vs us first caps h1 h2=>exact⟨Rep.fn f vs us first caps h1 h2,trivial⟩
theorem uO {rows:List (List PV)}{sz:Nat}(hl: ∀r∈rows,r.length=sz){i:Nat}{r:List PV}(hi:rows[i]? =some r)(j:Nat)(hj:j<sz):
  rows.flatten[i*sz+j]? =r[j]? :=by
 induction rows generalizing i with
 |nil=>simp at hi
 |cons r0 rows ih=>
  have h0:r0.length=sz:=hl r0 (.head _);cases i with
  |zero=>
   simp at hi;subst hi;rw[EP,HA,Ew,E9 (by omega)]
  |succ i=>
   simp at hi;have e:(i+1)*sz+j=r0.length+(i*sz+j):=(by rw[h0,FM];omega);rw[EP,e,Dw (by omega),ET];exact ih (λr hr=>hl r (.tail _ hr)) hi
theorem lN {rows:List (List PV)}{sz:Nat}(hl: ∀r∈rows,r.length=sz){i:Nat}{r:List PV}(hi:rows[i]? =some r):
  ∃rest,rows.flatten.drop (i*sz)=r++rest:=by
 induction rows generalizing i with
 |nil=>simp at hi
 |cons r0 rows ih=>
  have h0:r0.length=sz:=hl r0 (.head _);cases i with
  |zero=>simp at hi;subst hi;exact⟨rows.flatten,by simp⟩
  |succ i=>
   simp at hi;obtain⟨rest,hr⟩:=ih (λr hr=>hl r (.tail _ hr)) hi;refine⟨rest,?_⟩;have e:(i+1)*sz=r0.length+i*sz:=(by rw[h0,FM];omega);rw[EP,e,List.drop_append,GT (by omega),Ea,ET];exact hr
def pL (w:World)(Z:Nat->Prop)(v:Value)(cells:List PV):Prop:=
 ∃b o xs,v= .pointer (some ⟨b,o,none⟩)/\b<w.heap.size/\L2 (Rep w Z) xs cells/\(∀p∈cells,p.one=true)/\∀j x,xs[j]? =some x->w.cell? ⟨b,o+j,none⟩=some x
theorem pL.drop {Z:Nat->Prop}{b o:Nat}{xs:List Value}{cells:List PV}(hb:b<w.heap.size)(hr:L2 (Rep w Z) xs cells)(h1: ∀p∈cells,p.one=true)
  (hc: ∀j x,xs[j]? =some x->w.cell? ⟨b,o+j,none⟩=some x) (n:Nat):pL w Z (.pointer (some ⟨b,o+n,none⟩)) (cells.drop n):=
 ⟨b,o+n,xs.drop n,rfl,hb,hr.drop n,λp hp=>h1 p (Et hp),λj x hj=>by
  rw[En];exact hc (n+j) x (by simpa using hj)⟩
theorem ju {Z:Bool->Nat->Prop}{v:Value}{c:Own}(h:ar w Z v c){i off st:Nat}{fr:Bool}{cells:List PV}(hc:c.at_ i off st=some (fr,cells)){g:Nat}(hg:ax v=some g):
  pL w (Z fr) (.pointer (some ⟨g,i*st+off,none⟩)) cells:=by
 cases c with
 |sl e sz fr' rows=>
  obtain⟨xs,ho,hr,hl,h1⟩:=h;simp only[Own.at_]at hc;split at hc
  ·rename_i r hsz hi;obtain rfl:=EV hsz;simp only[D6,Prod.mk.injEq]at hc;obtain⟨rfl,rfl⟩:=hc;rw[j8 (g:=g) ho]at hg;have hcell:=ho.cells hg;obtain⟨rest,hrest⟩:=lN hl hi;have hd:=hr.drop (i*sz);rw[hrest]at hd;have hd2:=hd.take r.length;rw[GU]at hd2;refine pL.drop (xs:=(xs.drop (i*sz)).take r.length) (ho.lt g hg).2 hd2 (h1 r (D7 hi)) (λj x hj=> ?_) off;have hj2:(xs.drop (i*sz))[j]? =some x:=by
    rw[Ek]at hj;split at hj;·exact hj
    ·cases hj
   have:=hcell (i*sz+j) x (by simpa using hj2);rw[show(⟨g,0,none⟩:Addr).add (i*sz+j)=⟨g,i*sz+j,none⟩by unfold Addr.add;split<;>simp_all]at this;exact this
  ·cases hc
 |box fr' row=>
  obtain⟨g',t,cur,rfl,hh,hr,h1⟩:=h;simp only[Own.at_]at hc;split at hc
  ·simp only[D6,Prod.mk.injEq]at hc;obtain⟨rfl,rfl⟩:=hc;simp only[ax,D6]at hg;subst hg;refine pL.drop (o:=0*st) (DR.1 hh).1 hr h1 (λj x hj=> ?_) off;rw[HA,Ew,cell_of_row w g' j cur t (0,0) hh];simpa using hj
  ·cases hc
 |fam e sz fr l=>simp[Own.at_]at hc
 |mp fr b l=>simp[Own.at_]at hc
 |it m since seen last=>simp[Own.at_]at hc
 |sit s pos=>simp[Own.at_]at hc
theorem kY {w:World}{Z:Nat->Prop}{v:Value}{cs:List PV}(h:Rep w Z v (.ptr cs)): ∃b o xs,v= .pointer (some ⟨b,o,none⟩)/\Z b/\b<w.heap.size/\L2 (Rep w Z) xs cs/\(∀p∈cs,p.one=true)/\∀j x,xs[j]? =some x->mJ w ⟨b,o+j,none⟩ x:=by
 cases h with
 |ptr b o _ xs hz hb h1 h2 h3=>exact⟨b,o,xs,rfl,hz,hb,h3,h1,h2⟩
theorem j0 (h:RelW K E U φ a w){x:Operand}{sv:SV}{fr:Bool}{cells:List PV}(hx:E.get x=some sv)(hc:E.cellsAt sv=some (fr,cells)):pL w (Zf K E φ fr) (a.eval x) cells:=by
 obtain⟨hr,_⟩:=ae h hx;cases sv with
 |fptr f cs=>
  simp only[EnvF.cellsAt,D6,Prod.mk.injEq]at hc;obtain⟨rfl,rfl⟩:=hc;obtain⟨b,o,xs,hv,_,hlt,h2,h1,h3⟩:=hr;exact⟨b,o,xs,hv,hlt,h2,h1,λj x hj=>(h3 j x hj).1⟩
 |optr o i off st=>
  simp only[EnvF.cellsAt,GQ]at hc;obtain⟨c,ho,hat⟩:=hc;obtain⟨g,hg,hv⟩:=hr;rw[hv];exact ju (h.own o c ho) hat hg
 |val f p=>
  cases p with
  |ptr cs=>
   simp only[EnvF.cellsAt,D6,Prod.mk.injEq]at hc;obtain⟨rfl,rfl⟩:=hc;obtain⟨b,o,xs,hv,_,hlt,h2,h1,h3⟩:=kY hr;exact⟨b,o,xs,hv,hlt,h2,h1,λj x hj=>(h3 j x hj).1⟩
  |_=>simp[EnvF.cellsAt]at hc
 |fix u p=>
  cases p with
  |ptr cs=>
   simp only[EnvF.cellsAt,D6,Prod.mk.injEq]at hc;obtain⟨rfl,rfl⟩:=hc;obtain⟨b,o,xs,hv,_,hlt,h2,h1,h3⟩:=kY hr.2;exact⟨b,o,xs,hv,hlt,h2,h1,λj x hj=>(h3 j x hj).1⟩
  |_=>simp[EnvF.cellsAt]at hc
 |_=>simp[EnvF.cellsAt]at hc
theorem l7 {P:Program}{t:TypeId}{d:TypeDesc}(h:P.underlying t=some d)(w:World):(isAgg t).run P w= .ok (r8 d) w:=by
 unfold isAgg;rw[DK,run_underlying h w];cases d<;>simp[r8]
theorem aM {P:Program}{t:TypeId}{i:TypeInfo}(h:P.info? t=some i)(w:World):(sizeOf t).run P w= .ok i.size w:=by
 simp[sizeOf,typeInfo,h]
theorem fS {P:Program}{Z:Nat->Prop}{v:Value}{cells:List PV}(h:pL w Z v cells){t:TypeId}{p:PV}(hp:iq P t cells=some p):
  ∃u,(Instr.loadAt t v).run P w= .ok u w/\Rep w Z u p:=by
 obtain⟨b,o,xs,rfl,hlt,hr,h1,hc⟩:=h;simp only[iq]at hp;split at hp
 ·rename_i d i hd hi;have hadd: ∀j,(⟨b,o,none⟩:Addr).add j=⟨b,o+j,none⟩:=(by intro j;unfold Addr.add;split<;>simp_all);have hcells: ∀n,n<=cells.length->(loadCells ⟨b,o,none⟩ n).run P w= .ok (xs.take n).toArray w:=by
   intro n hn;have:=run_loadCells_list (P:=P) w ⟨b,o,none⟩ (xs.take n) (λj u hj=>by
    rw[hadd];refine hc j u ?_;rw[Ek]at hj;split at hj;·exact hj
    ·cases hj)
   rwa[Dx,hr.length,ES hn]at this
  have hagg:=l7 hd w;have hsz:=aM hi w;split at hp
  ·rename_i hag;have hrun: ∀n,n<=cells.length->i.size=n->(Instr.loadAt t (.pointer (some ⟨b,o,none⟩))).run P w= .ok (.agg (xs.take n).toArray) w:=by
    intro n hn hin;subst hin;simp[Instr.loadAt,Instr.sureAddr,loadVar,hagg,hag,hsz,hcells _ hn]
   split at hp
   ·rename_i hlen;obtain rfl:=D3 hp;refine⟨_,hrun cells.length (DL _) (EV hlen).symm,?_⟩;rw[<-hr.length,E8];exact .agg _ _ hr h1
   ·split at hp
    ·rename_i hle;obtain rfl:=D3 hp;exact⟨_,hrun i.size (Dy hle) Y,.agg _ _ (hr.take _) λp hp=>h1 p (Eg hp)⟩
    ·cases hp
  ·rename_i hag;split at hp
   ·rename_i c rest;obtain rfl:=D3 hp;cases hr with
    |cons hx _=>
     have hcell:=hc 0 _ (by simp;rfl);simp only[F1]at hcell;refine⟨_,?_,hx⟩;simp[Instr.loadAt,Instr.sureAddr,loadVar,hagg,hag,hcell]
   ·cases hp
 ·cases hp
theorem CH (h:RelW K E U φ a w){x:Operand}{sv:SV}{rows:List (List PV)}(hx:E.get x=some sv)(hp:E.pv sv=some (.sl rows)):
  ∃base cap,a.eval x= .slice base rows.length cap:=by
 obtain⟨hr,_⟩:=ae h hx;generalize a.eval x=v at hr⊢;cases sv with
 |val f p=>
  simp only[EnvF.pv,D6]at hp;subst hp;cases hr with
  |nilsl=>exact⟨none,0,rfl⟩
  |slE a cap hc=>exact⟨_,_,rfl⟩
  |sl b off cap sz rows xs _ _ _ _ _ _ _ _=>exact⟨_,_,rfl⟩
 |fix u p=>
  simp only[EnvF.pv,D6]at hp;subst hp;obtain⟨_,hr⟩:=hr;cases hr with
  |nilsl=>exact⟨none,0,rfl⟩
  |slE a cap hc=>exact⟨_,_,rfl⟩
  |sl b off cap sz rows xs _ _ _ _ _ _ _ _=>exact⟨_,_,rfl⟩
 |nilsl=>simp only[EnvF.pv,D6,PV.sl.injEq]at hp;subst hp;exact⟨none,0,hr⟩
 |ref o=>
  simp only[EnvF.pv]at hp;split at hp
  ·rename_i e sz fr rows' ho;simp only[D6,PV.sl.injEq]at hp;subst hp;obtain⟨xs,hown,_⟩:=h.own o _ ho;simp only[aU,ay]at hr;rw[hr];rcases hown.2 with ⟨hv,hn⟩|⟨g,cap,cur,hv,_⟩;·exact⟨none,0,by rw[hv,hn]⟩
   ·exact⟨_,_,hv⟩
  ·cases hp
 |_=>simp[EnvF.pv]at hp
end
section
variable {K:Ctx}{E:EnvF}{U:Nat->Prop}{φ:Nat->Value}{a:Act}{w:World}
theorem i5 {P:Program}{t:TypeId}(hud:P.underlying t=some .bool)(m n:Bool)(w:World):(Op.equal t (.bool m) (.bool n)).run P w= .ok (m==n) w:=by
 have key: ∀d,(Op.equalIn (d+1) t (.bool m) (.bool n)).run P w= .ok (m==n) w:=by
  intro d;rw[Op.equalIn];simp only[DK,run_underlying hud,DA];rfl
 exact key 9999
theorem zr {P:Program}{Z Z1 Z2:Nat->Prop}{op:BinOp}{u v:Value}{p q r:PV}{t:TypeId}(hu:Rep w Z1 u p)(hv:Rep w Z2 v q)(hb:vf (P.underlying t) op p q=some r)(x y:Operand):
  ∃z,(do eqGuard op t x y u v;binOp op t u v:Sem Value).run P w= .ok z w/\Rep w Z z r:=by
 unfold vf at hb;split at hb
 ·rename_i k m k' n;cases hu;cases hv;have hg:(eqGuard op t x y (.int k m) (.int k' n)).run P w= .ok () w:=by
   unfold eqGuard;split<;>rfl
  simp only[DK,hg,DA];split at hb
  ·split at hb;·cases hb
   ·rename_i hn;obtain rfl:=D3 hb;exact⟨_,by simp[binOp,Op.shift,hn],.int _ _⟩
  ·split at hb;·cases hb
   ·rename_i hn;obtain rfl:=D3 hb;exact⟨_,by simp[binOp,Op.shift,hn],.int _ _⟩
  ·rename_i h1 h2;split at hb
   ·rename_i hk;subst hk;split at hb<;>try
     first
     |(obtain rfl:=D3 hb;first|exact⟨_,by simp only[binOp,ne_eq,not_true_eq_false,if_false,Op.intArith];rfl,.int _ _⟩|exact⟨_,by simp only[binOp,ne_eq,not_true_eq_false,if_false,Op.intBits];rfl,.int _ _⟩|exact⟨_,by simp only[binOp,ne_eq,not_true_eq_false,if_false,Op.intCmp];rfl,.bool _⟩)
    ·split at hb;·cases hb
     ·rename_i hn;obtain rfl:=D3 hb;exact⟨_,by simp only[binOp,ne_eq,not_true_eq_false,if_false,Op.intDiv,hn];rfl,.int _ _⟩
    ·split at hb;·cases hb
     ·rename_i hn;obtain rfl:=D3 hb;exact⟨_,by simp only[binOp,ne_eq,not_true_eq_false,if_false,Op.intDiv,hn];rfl,.int _ _⟩
    ·obtain rfl:=D3 hb;refine⟨.bool (m != n),by simp only[binOp,ne_eq,not_true_eq_false,if_false,Op.intCmp];rfl,?_⟩;have:(m != n)=decide (m≠n):=(by by_cases e:m=n<;>simp[e]);rw[this];exact .bool _
    ·cases hb
   ·cases hb
 ·cases hu;cases hv;rename_i m n;have hg:(eqGuard op t x y (.bool m) (.bool n)).run P w= .ok () w:=by
   unfold eqGuard;split<;>rfl
  simp only[DK,hg,DA];split at hb
  ·rename_i hud;obtain rfl:=D3 hb;exact⟨_,by simp only[binOp,DK,i5 hud];rfl,.bool _⟩
  ·rename_i hud;obtain rfl:=D3 hb;exact⟨_,by simp only[binOp,DK,i5 hud];rfl,.bool _⟩
  ·cases hb
 ·cases hu;cases hv;rename_i m n;have hg:(eqGuard op t x y (.string m) (.string n)).run P w= .ok () w:=by
   unfold eqGuard;split<;>rfl
  simp only[DK,hg,DA];split at hb
  ·obtain rfl:=D3 hb;exact⟨_,by simp[binOp,Op.stringOp],.bool _⟩
  ·obtain rfl:=D3 hb;exact⟨_,by simp[binOp,Op.stringOp],.bool _⟩
  ·cases hb
 ·cases hb
end
section
variable {K:Ctx}{E:EnvF}{U:Nat->Prop}{φ:Nat->Value}{a:Act}{w:World}
theorem uL {R:Value->PV->Prop}(off:Nat): ∀(vs:List Value) (ps:List PV) (k:Nat) (cells:Array Value) (cs:List PV),L2 R vs ps->L2 R cells.toList cs->
  L2 R ((vs.zipIdx k).foldl (λcs (x:Value×Nat)=>cs.setIfInBounds (off+x.2) x.1) cells).toList (putCells cs (off+k) ps)
 |_,_,k,cells,cs,.nil,hc=>by simpa[putCells]using hc
 |v::vs,p::ps,k,cells,cs,.cons h hr,hc=>by
  simp only[H6,Dn,putCells];have:=uL off vs ps (k+1) (cells.setIfInBounds (off+k) v) (cs.set (off+k) p) hr (by rw[Fe];exact hc.set _ h);simpa[En]using this
theorem nG: ∀(ps cs:List PV) (n:Nat),(∀p∈cs,p.one=true)->(∀p∈ps,p.one=true)->∀p∈putCells cs n ps,p.one=true
 | [],cs,n,h,_=>h
 |q::ps,cs,n,h,h2=>nG ps (cs.set n q) (n+1) (λp hp=>by
   rcases DV hp with h3|h3;·exact h p h3
   ·rw[h3];exact h2 q (.head _)) (λp hp=>h2 p (.tail _ hp))
theorem kA {Z:Nat->Prop}{pl:List (Nat×Nat)}: ∀(ps:List (Nat×PV)) (vs:List (Nat×Value)) (cells:Array Value) (cs cs':List PV),
  L2 (λ(v:Nat×Value) (p:Nat×PV)=>v.1=p.1/\Rep w Z v.2 p.2) vs ps->L2 (Rep w Z) cells.toList cs->(∀p∈cs,p.one=true)->mF pl cs ps=some cs'->
  ∃cells',Instr.fill (pl.toArray[·]?) cells vs=some cells'/\L2 (Rep w Z) cells'.toList cs'/\∀p∈cs',p.one=true
 |_,_,cells,cs,cs',.nil,hc,h1,hf=>by
  simp only[mF,D6]at hf;subst hf;exact⟨cells,rfl,hc,h1⟩
 |(i,p)::ps,(j,v)::vs,cells,cs,cs',.cons h hr,hc,h1,hf=>by
  obtain⟨e,hp⟩:=h;simp only at e hp;subst e;simp only[mF]at hf;split at hf
  ·rename_i off size hpl;split at hf
   ·rename_i hsz hle;have hvc:=hp.cells;have hl:=hvc.length;have hsz':=EV hsz;have hle':=Dy hle;have hcl:=hc.length;rw[EI]at hl hcl;have hnew:=uL off v.cells.toList p.cells 0 cells cs hvc hc;obtain⟨cells',hfill,h3,h4⟩:=kA ps vs _ _ cs' hr hnew (nG _ _ _ h1 hp.cells_one) hf;refine⟨cells',?_,h3,h4⟩;simp only[F8]at hfill;simp only[Instr.fill,F8,hpl];rw[D2 (by simp;omega)];rw[<-hfill];congr 1;rw[<-Fy,Gi]
   ·cases hf
  ·cases hf
theorem j6 {Z:Nat->Prop}: ∀(vs:List Value) (ps:List PV),gg vs=some ps->L2 (Rep w Z) vs ps/\∀p∈ps,p.one=true
 | [],ps,h=>by simp only[gg,D6]at h;subst h;exact⟨.nil,by simp⟩
 |v::vs,ps,h=>by
  simp only[gg]at h;split at h
  ·rename_i p ps' hp hps;obtain rfl:=D3 h;obtain⟨h1,h2⟩:=j6 vs ps' hps;split at hp
   ·obtain rfl:=D3 hp;exact⟨.cons .nilsl h1,λq hq=>by cases hq with
     |head=>rfl
     |tail _ hq=>exact h2 q hq⟩
   ·obtain rfl:=D3 hp;exact⟨.cons (.raw _ Y) h1,λq hq=>by cases hq with
     |head=>rfl
     |tail _ hq=>exact h2 q hq⟩
   ·have hr:=sI (w:=w) (Z:=Z) hp;refine⟨.cons hr h1,λq hq=> ?_⟩;cases hq with
    |head=>unfold cPV at hp;split at hp<;>first|(cases hp;done)|(obtain rfl:=D3 hp;rfl)
    |tail _ hq=>exact h2 q hq
  ·cases h
theorem Zf.weak {K:Ctx}{V:EnvF}{φ:Nat->Value}{f g:Bool}(h:g=true->f=true){b:Nat}(hz:Zf K V φ f b):Zf K V φ g b:=⟨hz.1,λe=>hz.2 (h e)⟩
theorem Rep.weak {K:Ctx}{V:EnvF}{φ:Nat->Value}{w:World}{f g:Bool}(h:g=true->f=true){v:Value}{p:PV}(hr:Rep w (Zf K V φ f) v p):Rep w (Zf K V φ g) v p:=
 hr.mono λ_ hb _=>⟨hb.weak h,rfl⟩
theorem i9 (h:RelW K E U φ a w): ∀(parts:List (Nat×Operand)) (f:Bool) (ps:List (Nat×PV)),fq E parts=some (f,ps)->
  L2 (λ(v:Nat×Value) (p:Nat×PV)=>v.1=p.1/\Rep w (Zf K E φ f) v.2 p.2) (parts.map λx=>(x.1,a.eval x.2)) ps
 | [],f,ps,hp=>by simp only[fq,D6,Prod.mk.injEq]at hp;obtain⟨rfl,rfl⟩:=hp;exact .nil
 |(i,x)::rest,f,ps,hp=>by
  simp only[fq]at hp;split at hp
  ·rename_i sv f' l hx hl;split at hp
   ·rename_i fr p hfz;simp only[D6,Prod.mk.injEq]at hp;obtain⟨rfl,rfl⟩:=hp;exact .cons ⟨rfl,(bC h hx hfz).weak (by simp;intro a _;exact a)⟩ ((i9 h rest f' l hl).imp λ_ _ hq=>⟨hq.1,hq.2.weak (by simp)⟩)
   ·cases hp
  ·cases hp
theorem d8 (h:RelW K E U φ a w): ∀(xs:List Operand) (ps:List PV),du E xs=some ps->L2 (Rep w (Zf K E φ false)) (xs.map a.eval) ps
 | [],ps,hp=>by simp only[du,D6]at hp;subst hp;exact .nil
 |x::rest,ps,hp=>by
  simp only[du]at hp;split at hp
  ·rename_i sv l hx hl;split at hp
   ·rename_i fr p hfz;obtain rfl:=D3 hp;exact .cons ((bC h hx hfz).weak (by simp)) (d8 h rest l hl)
   ·cases hp
  ·cases hp
theorem u7 (h:RelW K E U φ a w){t:TypeId}{parts:Array (Nat×Operand)}{fr:Bool}{p:PV}(hb:jN K.P E t parts.toList=some (fr,p)):
  ∃v,(Instr.build t (parts.map λ(i,x)=>(i,a.eval x))).run K.P w= .ok v w/\Rep w (Zf K E φ fr) v p:=by
 simp only[jN]at hb;split at hb
 ·rename_i fs i hu hi;split at hb
  ·rename_i z hz;split at hb
   ·rename_i zs f ps hzs hps;split at hb
    ·rename_i pl hpl;split at hb
     ·rename_i cs hcs;simp only[D6,Prod.mk.injEq]at hb;obtain⟨rfl,rfl⟩:=hb;obtain⟨h1,h2⟩:=j6 (w:=w) (Z:=Zf K E φ f) _ _ hzs;obtain⟨cells',hfill,h3,h4⟩:=kA ps _ _ zs cs (i9 h parts.toList f ps hps) h1 h2 hcs;refine⟨.agg cells',?_,?_⟩
      ·refine run_build w t _ cells' ?_;simp only[Program.built,hi,hu,hz];have:fs.toList.mapM (λf=>(K.P.info? f.type).map λi=>(f.offset,i.size))=some pl:=hpl;simp only[this];rw[<-hfill];simp
      ·have:(Value.agg cells')= .agg cells'.toList.toArray:=(by simp);rw[this];exact .agg _ _ h3 h4
     ·cases hb
    ·cases hb
   ·cases hb
  ·cases hb
 ·cases hb
theorem yf {w:World}{Z:Bool->Nat->Prop}{f:Bool}{v:Value}{p:PV}(h:Rep w (Z f) v p):aU w Z φ v (.val f p):=h
theorem uS (h:RelW K E U φ a w){o:Oper}{sv:SV}(he:ev K.P E o=some sv):
  ∃v,(execOp a.eval o).run K.P w= .ok (.value v) w/\aU w (Zf K E φ) φ v sv/\sv.inU U:=by
 unfold ev at he;split at he
 ·rename_i x ho;obtain⟨h1,h2⟩:=ae h he;exact⟨a.eval x,by simp[execOp,ho],h1,h2⟩
 ·rename_i x ho;obtain⟨h1,h2⟩:=ae h he;exact⟨a.eval x,by simp[execOp,ho],h1,h2⟩
 ·rename_i c x y ho;split at he
  ·rename_i hc;obtain⟨hr,_⟩:=ae h hc;obtain⟨h1,h2⟩:=ae h he;generalize hv:a.eval c=v at hr;cases hr;exact⟨a.eval x,by simp[execOp,ho,hv,asBool],h1,h2⟩
  ·rename_i hc;obtain⟨hr,_⟩:=ae h hc;obtain⟨h1,h2⟩:=ae h he;generalize hv:a.eval c=v at hr;cases hr;exact⟨a.eval y,by simp[execOp,ho,hv,asBool],h1,h2⟩
  ·cases he
 ·rename_i op t x y yt ho;split at he
  ·rename_i f1 p f2 q hx hy;obtain⟨r,hb,rfl⟩:=DY.1 he;have hx1:Rep w (Zf K E φ f1) (a.eval x) p:=(ae h hx).1;have hy1:Rep w (Zf K E φ f2) (a.eval y) q:=(ae h hy).1;obtain⟨z,hz,hrep⟩:=zr (Z:=Zf K E φ true) hx1 hy1 hb x y;refine⟨z,?_,hrep,trivial⟩;simp only[execOp,ho];simp only[DK]at hz⊢;rw[hz];rfl
  ·cases he
 ·rename_i op t x ho;split at he
  ·rename_i f1 p hx;obtain⟨r,hb,rfl⟩:=DY.1 he;obtain⟨hr,_⟩:=ae h hx;unfold CA at hb;generalize hv:a.eval x=v at hr;split at hb
   ·obtain rfl:=D3 hb;cases hr;rename_i k n _;exact⟨.int k (k.wrap (0-n)),by simp[execOp,ho,hv,Op.unary,Op.intArith],yf (.int _ _),trivial⟩
   ·obtain rfl:=D3 hb;cases hr;exact⟨_,by simp[execOp,ho,hv,Op.unary],Rep.bool _,trivial⟩
   ·cases hb
  ·cases he
 ·rename_i t x ho;split at he
  ·rename_i sx hx;split at he
   ·rename_i fr cs hcs;obtain⟨r,hb,rfl⟩:=DY.1 he;obtain⟨u,hu,hrep⟩:=fS (j0 h hx hcs) hb;exact⟨u,by simp[execOp,ho,hu],gQ hrep⟩
   ·cases he
  ·cases he
 ·rename_i s x f ho;split at he
  ·rename_i fd hfd;split at he
   ·rename_i i hi;have hfs: ∃fs:Array Field,K.P.underlying s=some (.struct fs)/\fs[f]? =some fd:=by
     unfold nP at hfd;split at hfd;·exact⟨_,by assumption,hfd⟩
     ·cases hfd
    obtain⟨fs,hu,hf⟩:=hfs;have hrun: ∀b o,i.size≠0->(Instr.fieldAt s (.pointer (some ⟨b,o,none⟩)) f).run K.P w= .ok (.pointer (some ⟨b,o+fd.offset,none⟩)) w:=by
     intro b o hne;have hadd:(⟨b,o,none⟩:Addr).add fd.offset=⟨b,o+fd.offset,none⟩:=(by unfold Addr.add;split<;>simp_all);simp[Instr.fieldAt,run_underlying hu,hf,Instr.sureAddr,fieldPlace,aM hi,hne,hadd]
    split at he
    ·rename_i fr cs hne hx;split at he
     ·rename_i hle;obtain rfl:=D3 he;obtain⟨hr,_⟩:=ae h hx;obtain⟨b,o,xs,hv,hz,hlt,h2,h1,hc⟩:=hr;have hne':i.size≠0:=λe=>(by rw[e]at hne;simp at hne);refine⟨_,by simp[execOp,ho,hv,hrun b o hne'];rfl,?_,trivial⟩;exact⟨b,o+fd.offset,xs.drop fd.offset,rfl,hz,hlt,h2.drop _,λp hp=>h1 p (Et hp),λj y hj=>by
       rw[En];exact hc (fd.offset+j) y (by simpa using hj)⟩
     ·cases he
    ·rename_i fr cs hne hx;split at he
     ·rename_i hle;obtain rfl:=D3 he;obtain⟨hr,_⟩:=ae h hx;obtain⟨b,o,xs,hv,hz,hlt,h2,h1,hc⟩:=kY hr;have hne':i.size≠0:=λe=>(by rw[e]at hne;simp at hne);refine⟨_,by simp[execOp,ho,hv,hrun b o hne'];rfl,?_,trivial⟩;exact⟨b,o+fd.offset,xs.drop fd.offset,rfl,hz,hlt,h2.drop _,λp hp=>h1 p (Et hp),λj y hj=>by
       rw[En];exact hc (fd.offset+j) y (by simpa using hj)⟩
     ·cases he
    ·rename_i u cs hne hx;split at he
     ·rename_i hle;obtain rfl:=D3 he;obtain⟨hr,_⟩:=ae h hx;obtain⟨b,o,xs,hv,hz,hlt,h2,h1,hc⟩:=kY hr.2;have hne':i.size≠0:=λe=>(by rw[e]at hne;simp at hne);refine⟨_,by simp[execOp,ho,hv,hrun b o hne'];rfl,?_,trivial⟩;exact⟨b,o+fd.offset,xs.drop fd.offset,rfl,hz,hlt,h2.drop _,λp hp=>h1 p (Et hp),λj y hj=>by
       rw[En];exact hc (fd.offset+j) y (by simpa using hj)⟩
     ·cases he
    ·rename_i o' i' off st hne hx;obtain rfl:=D3 he;obtain⟨hr,hl⟩:=ae h hx;obtain⟨g,hg,hv⟩:=hr;have hne':i.size≠0:=λe=>(by rw[e]at hne;simp at hne);refine⟨.pointer (some ⟨g,i'*st+off+fd.offset,none⟩),by simp[execOp,ho,hv,hrun g _ hne'],⟨g,hg,by rw[En]⟩,hl⟩
    ·cases he
   ·cases he
  ·cases he
 ·rename_i s x f ho;split at he
  ·rename_i fd hfd;have hfs: ∃fs:Array Field,K.P.underlying s=some (.struct fs)/\fs[f]? =some fd:=by
    unfold nP at hfd;split at hfd;·exact⟨_,by assumption,hfd⟩
    ·cases hfd
   obtain⟨fs,hu,hf⟩:=hfs;split at he
   ·rename_i fr cs hx;split at he
    ·rename_i d i hd hi;obtain⟨hr,_⟩:=ae h hx;generalize hv:a.eval x=v at hr;cases hr with
     |agg vs _ hl h1=>
     have hagg:=l7 hd w;split at he
     ·rename_i hag;split at he
      ·obtain rfl:=D3 he;refine⟨.agg ((vs.drop fd.offset).take i.size).toArray,?_,?_,trivial⟩;·simp[execOp,ho,hv,Instr.field,run_underlying hu,hf,asAgg,part,hagg,hag,aM hi]
       ·exact .agg _ _ ((hl.drop _).take _) λp hp=>h1 p (Et (Eg hp))
      ·cases he
     ·rename_i hag;obtain⟨p,hp,rfl⟩:=DY.1 he;obtain⟨u,hu2,hrep⟩:=hl.get hp;refine⟨u,?_,gQ hrep⟩;simp[execOp,ho,hv,Instr.field,run_underlying hu,hf,asAgg,part,hagg,hag,hu2]
    ·cases he
   ·cases he
  ·cases he
 ·rename_i x i ho;split at he
  ·rename_i l hx;obtain⟨hr,hl⟩:=ae h hx;obtain⟨vs,hv,h2⟩:=hr;have hv:a.eval x= .tuple vs.toArray:=hv;obtain⟨u,hu,hrep⟩:=h2.get he;have hs:=hl sv (D7 he);refine⟨u,by simp[execOp,ho,hv,Instr.extract,hu],?_,?_⟩
   ·cases sv with
    |tupB ag l'=>exact hrep.elim
    |_=>exact hrep
   ·cases sv with
    |tupB ag l'=>exact hrep.elim
    |_=>exact hs
  ·cases he
 ·rename_i t parts ho;obtain⟨⟨fr,r⟩,hb,rfl⟩:=DY.1 he;obtain⟨v,hv,hrep⟩:=u7 h hb;exact⟨v,by simp[execOp,ho,hv],hrep,trivial⟩
 ·rename_i fn first caps ho
  split at he
  ·rename_i l m hl hm;obtain rfl:=D3 he;refine⟨.func fn (first.map a.eval) (caps.map a.eval),by simp[execOp,ho,Instr.makeFunc],?_,trivial⟩;have h1:=d8 h _ _ hl;have h2:=d8 h _ _ hm;have e1:first.map a.eval=(first.toList.map a.eval).toArray:=by rw[<-Array.toList_map,EQ]
   have e2:caps.map a.eval=(caps.toList.map a.eval).toArray:=(by rw[<-Array.toList_map,EQ]);rw[e1,e2];exact Rep.fn fn _ _ _ _ h1 h2
  ·cases he
 ·rename_i src dst x ho;split at he
  ·rename_i f0 k0 n hx;split at he
   ·rename_i k1 k hs hd;obtain rfl:=D3 he;obtain⟨hr,_⟩:=ae h hx;generalize hv:a.eval x=v at hr;cases hr;exact⟨_,by simp[execOp,ho,hv,convert,run_underlying hs,run_underlying hd,Conv.intToInt],Rep.int _ _,trivial⟩
   ·cases he
  ·cases he
 ·rename_i args argTypes ho;split at he
  ·rename_i x t hargs htys;have ea:args= #[x]:=(by rw[<-EQ (xs:=args),hargs]);have et:argTypes= #[t]:=(by rw[<-EQ (xs:=argTypes),htys]);subst ea et;split at he
   ·rename_i sx hx;split at he
    ·rename_i e hu;split at he
     ·rename_i rows hpv;obtain rfl:=D3 he;obtain⟨base,cap,hv⟩:=CH h hx hpv;exact⟨_,by simp[execOp,ho,resolve,invoke,builtin,hv,Builtin.len_,run_underlying hu,goInt],Rep.int _ _,trivial⟩
     ·cases he
    ·rename_i hu;split at he
     ·rename_i f0 s;obtain rfl:=D3 he;obtain⟨hr,_⟩:=ae h hx;generalize hv:a.eval x=v at hr;cases hr;exact⟨_,by simp[execOp,ho,resolve,invoke,builtin,hv,Builtin.len_,run_underlying hu,goInt],Rep.int _ _,trivial⟩
     ·cases he
    ·cases he
   ·cases he
  ·cases he
 ·rename_i args argTypes ho;split at he
  ·rename_i x y hargs;have ea:args= #[x,y]:=(by rw[<-EQ (xs:=args),hargs]);subst ea;split at he
   ·rename_i f1 k m f2 k' n hx hy;obtain rfl:=D3 he;obtain⟨hr,_⟩:=ae h hx;obtain⟨hr2,_⟩:=ae h hy;generalize hv:a.eval x=v at hr;generalize hv2:a.eval y=v2 at hr2;cases hr;cases hr2;refine⟨.int k (if n > m then n else m),by simp[execOp,ho,resolve,invoke,builtin,hv,hv2,Builtin.max_,Builtin.max2],?_,trivial⟩;have:(if n > m then n else m)=max m n:=(by split<;>omega);rw[this];exact Rep.int _ _
   ·cases he
  ·cases he
 ·rename_i args argTypes ho;split at he
  ·rename_i x y hargs;have ea:args= #[x,y]:=(by rw[<-EQ (xs:=args),hargs]);subst ea;split at he
   ·rename_i f1 k m f2 k' n hx hy;obtain rfl:=D3 he;obtain⟨hr,_⟩:=ae h hx;obtain⟨hr2,_⟩:=ae h hy;generalize hv:a.eval x=v at hr;generalize hv2:a.eval y=v2 at hr2;cases hr;cases hr2;refine⟨.int k (if n<m then n else m),by simp[execOp,ho,resolve,invoke,builtin,hv,hv2,Builtin.min_,Builtin.min2],?_,trivial⟩;have:(if n<m then n else m)=min m n:=(by split<;>omega);rw[this];exact Rep.int _ _
   ·cases he
  ·cases he
 ·rename_i x ho;split at he
  ·rename_i o1 i off st hx;obtain rfl:=D3 he;obtain⟨hr,hu⟩:=ae h hx;obtain⟨g,hg,hv⟩:=hr;exact⟨_,by simp only[execOp,ho,hv];rfl,⟨g,hg,rfl⟩,hu⟩
  ·rename_i fr cs hx;obtain rfl:=D3 he;obtain⟨hr,hu⟩:=ae h hx;obtain⟨b,o1,xs,hv,hrest⟩:=hr;exact⟨_,by simp only[execOp,ho,hv];rfl,⟨b,o1,xs,rfl,hrest⟩,hu⟩
  ·cases he
 ·cases he
end
def cq (own:Nat->Option Own)(n:Nat)(adds:List Own)(o:Nat):Option Own:=if n<=o/\o<n+adds.length then adds[o-n]? else own o
def em (U:Nat->Prop)(n:Nat)(adds:List Own)(o:Nat):Prop:=U o∨(n<=o/\o<n+adds.length)
def bI (φ:Nat->Value)(n:Nat)(hs:List Value)(o:Nat):Value:=if n<=o/\o<n+hs.length then hs.getD (o-n) undef else φ o
def EnvF.add (V:EnvF)(n:Nat)(adds:List Own):EnvF:=⟨V.slot,cq V.own n adds⟩
theorem RelW.add {K:Ctx}{V:EnvF}{U:Nat->Prop}{φ:Nat->Value}{a:Act}{w w':World}(h:RelW K V U φ a w)(hb:Below w.heap.size w w')(n:Nat)(adds:List Own)(hs:List Value)
  (hn: ∀o,n<=o->o<n+adds.length->¬U o) (hl:hs.length=adds.length)
  (each: ∀(i:Nat) (c:Own) (v:Value),adds[i]? =some c->hs[i]? =some v->ar w' (Zf K (V.add n adds) (bI φ n hs)) v c/\∀g,VB v g->w.heap.size<=g)
  (dis: ∀(i j:Nat) (v v':Value) (g:Nat),hs[i]? =some v->hs[j]? =some v'->VB v g->VB v' g->i=j):
  RelW K (V.add n adds) (em U n adds) (bI φ n hs) a w':=by
 have hval: ∀o c,cq V.own n adds o=some c->n<=o/\o<n+adds.length->adds[o-n]? =some c/\hs[o-n]? =some (bI φ n hs o):=by
  intro o c ho hc;simp only[cq,D4 hc]at ho;refine⟨ho,?_⟩;have:o-n<hs.length:=(by omega);simp only[bI];rw[D4 (by omega)];simp[List.getD,D1 this]
 refine h.step (λ_=>False) (λo=>n<=o/\o<n+adds.length) Y (λo ho=> .inl ho) ?_ hb.os hb.tape hb.output hb.size (λb hlt _=>hb.block b hlt)
  (λ_ _ hd=>hd.elim) ?_ ?_ ?_
 ·intro o ho;simp only[bI];rw[D2 (λhc=>hn o hc.1 (by omega) ho)]
 ·intro o c ho hc;simp only[EnvF.add,cq]at ho;rw[D2 hc]at ho;exact ho
 ·intro o c ho hc;obtain⟨h1,h2⟩:=hval o c ho hc;obtain⟨h3,h4⟩:=each _ _ _ h1 h2;exact⟨.inr hc,h3,λg hg=> .inl (h4 g hg)⟩
 ·intro o o' c c' g ho ho' hc hc' hv hv';obtain⟨h1,h2⟩:=hval o c ho hc;obtain⟨h3,h4⟩:=hval o' c' ho' hc';have:=dis _ _ _ _ g h2 h4 hv hv';omega
inductive RV where
 |val (p:PV)
 |own (e:TypeId) (sz:Nat) (rows:List (List PV))
def RV1 (w:World)(Z:Nat->Prop)(v:Value):RV->Prop
 | .val p=>Rep w Z v p
 | .own e sz rows=>ar w (λ_=>Z) v (.sl e sz true rows)
def RV.owns (fr:Bool):List RV->List Own
 | []=>[]
 | .val _::rs=>RV.owns fr rs
 | .own e sz rows::rs=> .sl e sz fr rows::RV.owns fr rs
def RV.vals:List RV->List Value->List Value
 | .own .. ::rs,v::vs=>v::RV.vals rs vs
 | .val _::rs,_::vs=>RV.vals rs vs
 |_,_=>[]
def RV.svs (fr:Bool)(n:Nat):List RV->List SV
 | []=>[]
 | .val p::rs=>mkv fr p::RV.svs fr n rs
 | .own .. ::rs=> .ref n::RV.svs fr (n+1) rs
def RV.one (fr:Bool)(n:Nat)(rs:List RV):SV:=
 match RV.svs fr n rs with
 | [s]=>s
 |l=> .tup l
def l8:List Value->Value
 | [v]=>v
 |vs=> .tuple vs.toArray
structure RetRel (w w':World)(Zx:Nat->Prop)(vs:List Value)(rs:List RV):Prop where
 each:L2 (RV1 w' (λb=>(Zx b∨w.heap.size<=b)/\∀v,v∈RV.vals rs vs->¬VB v b)) vs rs
 fresh: ∀v g,v∈RV.vals rs vs->VB v g->w.heap.size<=g
 dis: ∀(i j:Nat) (v v':Value) (g:Nat),(RV.vals rs vs)[i]? =some v->(RV.vals rs vs)[j]? =some v'->VB v g->VB v' g->i=j
structure Spec (P:Program)(f:FuncId)(al:Bool)(args:List PV)(res:List RV):Prop where
 isFn: ∃fn,P.funcs[f]? =some fn/\fn.body.isSome=true/\(fn.name== "runtime.NumGoroutine")=false
 out: ∀(w:World) (Z:Nat->Prop) (vs:List Value),L2 (Rep w Z) vs args->Calls P f vs.toArray w λe w'=>
  ∃rs:List Value,e= .returned (l8 rs)/\Below w.heap.size w w'/\RetRel w w' (λb=>al=true/\Z b) rs res
def pH (E:EnvF)(al:Bool)(x:Operand):Option PV:=
 match E.get x with
 |some sv=>match al with
  |true=>match sv.ff with
   |some (_,p)=>some p
   |none=>none
  |false=>E.pv sv
 |none=>none
def bW (E:EnvF)(al:Bool):List Operand->Option (List PV)
 | []=>some []
 |x::xs=>match pH E al x,bW E al xs with
  |some p,some ps=>some (p::ps)
  |_,_=>none
def c5 (E:EnvF)(sz:Nat):Nat->List (Nat×Operand)->Option (Bool×List (List PV))
 |_,[]=>some (true,[])
 |k,(i,x)::rest=>match Nat.beq i k,E.get x,c5 E sz (k+1) rest with
  |true,some sv,some (f,rows)=>match sv.ff with
   |some (fr,p)=>match Nat.beq p.cells.length sz with
    |true=>some (fr&&f,p.cells::rows)
    |false=>none
   |none=>none
  |_,_,_=>none
inductive Does (K:Ctx)(V:EnvF)(n:Nat)(o:Oper):SV->List Own->Prop
 |ev {sv:SV}:ev K.P V o=some sv->Does K V n o sv []
 |idxf {t:TypeId} {x i:Operand} {sv:SV} {fr fi:Bool} {rows:List (List PV)} {r:List PV} {k:IntKind} {m:Int} {e:TypeId} {inf:TypeInfo}:o.op= .indexAddr t x i->V.get x=some sv->sv.ff=some (fr,.sl rows)->
   V.get i=some (.val fi (.int k m))->K.P.underlying t=some (.slice e)->K.P.info? e=some inf->0<=m->rows[m.toNat]? =some r->r.length=inf.size->Does K V n o (.fptr fr r) []
 |idxo {t:TypeId} {x i:Operand} {q:Nat} {fr fi:Bool} {rows:List (List PV)} {k:IntKind} {m:Int} {e' e:TypeId} {sz:Nat} {inf:TypeInfo}:o.op= .indexAddr t x i->V.get x=some (.ref q)->V.own q=some (.sl e' sz fr rows)->
   V.get i=some (.val fi (.int k m))->K.P.underlying t=some (.slice e)->K.P.info? e=some inf->0<=m->m.toNat<rows.length->inf.size=sz->Does K V n o (.optr q m.toNat 0 sz) []
 |slf {t:TypeId} {x:Operand} {lo hi:Option Operand} {sv:SV} {fr fl fh:Bool} {rows:List (List PV)} {e:TypeId} {inf:TypeInfo} {l h:Int} {kl kh:IntKind}:o.op= .slice t x lo hi none->V.get x=some sv->sv.ff=some (fr,.sl rows)->
   K.P.underlying t=some (.slice e)->K.P.info? e=some inf->(lo=none/\l=0∨∃y,lo=some y/\V.get y=some (.val fl (.int kl l)))->(hi=none/\h=rows.length∨∃y,hi=some y/\V.get y=some (.val fh (.int kh h)))->
   0<=l->l<=h->h<=rows.length->(∀r∈rows,r.length=inf.size)->Does K V n o (.val fr (.sl ((rows.take h.toNat).drop l.toNat))) []
 |buildR {t:TypeId} {parts:Array (Nat×Operand)} {l:List SV}:o.op= .build t parts->fB K.P V t parts.toList=some l->Does K V n o (.tupB true l) []
 |box {t:TypeId} {x:Operand} {sv:SV} {fr:Bool} {p:PV}:o.op= .box t x->V.get x=some sv->sv.ff=some (fr,p)->Does K V n o (.optr n 0 0 0) [.box fr p.cells]
 |bsv {t e:TypeId} {len:Nat} {fr:Bool} {parts:Array (Nat×Operand)} {rows:List (List PV)} {inf:TypeInfo} {z:Value}:o.op= .buildSlice t len parts->K.P.underlying t=some (.slice e)->K.P.info? e=some inf->inf.zero=some z->z.cells.size=inf.size->
   c5 V inf.size 0 parts.toList=some (fr,rows)->rows.length=len->len*inf.size<=2 ^ 24->len<=2 ^ 24->Does K V n o (.val fr (.sl rows)) []
 |bso {t e:TypeId} {len:Nat} {fr:Bool} {parts:Array (Nat×Operand)} {rows:List (List PV)} {inf:TypeInfo} {z:Value}:o.op= .buildSlice t len parts->K.P.underlying t=some (.slice e)->K.P.info? e=some inf->inf.zero=some z->z.cells.size=inf.size->
   c5 V inf.size 0 parts.toList=some (fr,rows)->rows.length=len->len*inf.size<=2 ^ 24->len<=2 ^ 24->Does K V n o (.ref n) [.sl e inf.size fr rows]
 |call {x:Operand} {args:Array Operand} {tys:Array TypeId} {f:FuncId} {first caps ps:List PV} {al fx:Bool} {res:List RV}:o.op= .call { callee:= .value x,args:=args,argTypes:=tys }->
   V.get x=some (.val fx (.fn (.func f) first caps))->bW V al args.toList=some ps->Spec K.P f al (first++ps++caps) res->Does K V n o (RV.one (!al) n res) (RV.owns (!al) res)
 |alloc {t:TypeId} {ps:List PV} {inf:TypeInfo} {z:Value}:o.op= .alloc t->K.P.info? t=some inf->inf.zero=some z->gg z.cells.toList=some ps->Does K V n o (.optr n 0 0 0) [.box true ps]
 |genO {xs:List Operand} {l:List PV} {c:Own}:(∀x∈xs,x∈o.op.operands)->du V xs=some l->(∀(a:Act) (w:World),L2 (Rep w λ_=>True) (xs.map a.eval) l->∃z w',(execOp a.eval o).run K.P w= .ok (.value z) w'/\Below w.heap.size w w'/\(∀Z,ar w' Z z c)/\∀g,VB z g->w.heap.size<=g)->Does K V n o (.ref n) [c]
 |gen {xs:List Operand} {l:List PV} {r:PV}:(∀x∈xs,x∈o.op.operands)->du V xs=some l->(∀(a:Act) (w:World),L2 (Rep w λ_=>True) (xs.map a.eval) l->∃z,(execOp a.eval o).run K.P w= .ok (.value z) w/\∀Z,Rep w Z z r)->Does K V n o (.val true r) []
section
variable {K:Ctx}{V:EnvF}{U:Nat->Prop}{φ:Nat->Value}{a:Act}{w:World}
theorem mN {rs:List RV}{vs:List Value}{R:Value->RV->Prop}(h:L2 R vs rs)(fr:Bool):(RV.vals rs vs).length=(RV.owns fr rs).length:=by
 induction h with
 |nil=>rfl
 | @cons v r vs rs _ _ ih=>cases r<;>simp[RV.vals,RV.owns,ih]
theorem tM {rs:List RV}{vs:List Value}{w:World}{Z:Bool->Nat->Prop}{fr:Bool}(h:L2 (RV1 w (Z fr)) vs rs):L2 (ar w Z) (RV.vals rs vs) (RV.owns fr rs):=by
 induction h with
 |nil=>exact .nil
 | @cons v r vs rs h _ ih=>cases r with
  |val p=>exact ih
  |own e sz rows=>exact .cons h ih
theorem Cd (h:RelW K V U φ a w){x:Operand}{sv:SV}{p:PV}(hx:V.get x=some sv)(hp:V.pv sv=some p):Rep w (λ_=>True) (a.eval x) p:=by
 obtain⟨hr,_⟩:=ae h hx;cases sv with
 |val f q=>simp only[EnvF.pv,D6]at hp;subst hp;exact Rep.mono (λb _ _=>⟨trivial,rfl⟩) hr
 |fix u q=>simp only[EnvF.pv,D6]at hp;subst hp;exact Rep.mono (λb _ _=>⟨trivial,rfl⟩) hr.2
 |nilsl=>simp only[EnvF.pv,D6]at hp;subst hp;simp only[aU,ay]at hr;rw[hr];exact .nilsl
 |ref o=>
  simp only[EnvF.pv]at hp;split at hp
  ·rename_i e sz fr rows ho;obtain rfl:=D3 hp;simp only[aU,ay]at hr;rw[hr];obtain⟨xs,hown,hl,h1,h2⟩:=h.own o _ ho;have hl':L2 (Rep w (λ_=>True)) xs rows.flatten:=hl.imp λ_ _ hp=>Rep.mono (λb _ _=>⟨trivial,rfl⟩) hp;have hlt:=hown.lt;have hcell:=λg hg=>hown.cells (g:=g) hg;rcases hown.2 with ⟨hv,hn⟩|⟨g,cap,cur,hv,_,hg,hnc,hcm,_⟩
   ·rw[hv];have:rows=[]:=DP hn;subst this;exact .nilsl
   ·rw[hv]at hcell hlt⊢;refine .sl g 0 cap sz rows xs trivial (hlt g Y).2 h1 h2 (λj v hj=> ?_) hnc hcm hl';have:=hcell g Y j v hj;rw[show(⟨g,0,none⟩:Addr).add j=⟨g,0+j,none⟩by unfold Addr.add;split<;>simp_all]at this;exact bY hg this
  ·cases hp
 |_=>simp[EnvF.pv]at hp
theorem iJ (h:RelW K V U φ a w){al:Bool}: ∀(xs:List Operand) (ps:List PV),bW V al xs=some ps->
  L2 (Rep w (λb=>al=true->Zof K V φ b)) (xs.map a.eval) ps
 | [],ps,hp=>by simp only[bW,D6]at hp;subst hp;exact .nil
 |x::rest,ps,hp=>by
  simp only[bW]at hp;split at hp
  ·rename_i p l hx hl;obtain rfl:=D3 hp;refine .cons ?_ (iJ h rest l hl);unfold pH at hx;split at hx
   ·rename_i sv hg;cases al with
    |true=>
     simp only at hx;split at hx
     ·rename_i fr q hff;obtain rfl:=D3 hx;exact Rep.mono (λb hb _=>⟨λ_=>hb.1,rfl⟩) (bC h hg hff)
     ·cases hx
    |false=>exact Rep.mono (λb hb _=>⟨λe=>by simp at e,rfl⟩) (Cd h hg hx)
   ·cases hx
  ·cases hp
theorem dw {w:World}{Z:Bool->Nat->Prop}{U:Nat->Prop}{fr:Bool}: ∀(rs:List RV) (vs:List Value) (n:Nat) (φ:Nat->Value),L2 (RV1 w (Z fr)) vs rs->
  (∀(i:Nat) v,(RV.vals rs vs)[i]? =some v->φ (n+i)=v)->(∀i,i<(RV.owns fr rs).length->U (n+i))->L2 (ay w Z φ) vs (RV.svs fr n rs)/\∀s∈RV.svs fr n rs,s.in1 U
 |_,_,n,φ,.nil,_,_=>⟨.nil,by simp[RV.svs]⟩
 | .val p::rs,v::vs,n,φ,.cons h hr,hφ,hU=>by
  obtain⟨h1,h2⟩:=dw rs vs n φ hr hφ hU;obtain⟨h3,h4⟩:=gQ (φ:=φ) (U:=U) (fr:=fr) (Z:=Z) h;have hm: ∀s:SV,aU w Z φ v s->(∀ag l,s≠.tupB ag l)->ay w Z φ v s:=λs hs hne=>by cases s<;>first|exact hs|exact DU Y (hne _ _)
  have hm2: ∀s:SV,s.inU U->(∀ag l,s≠.tupB ag l)->s.in1 U:=λs hs hne=>by cases s<;>first|exact hs|exact DU Y (hne _ _)
  have hne: ∀ag l,mkv fr p≠.tupB ag l:=λ_ l=>(by cases p<;>simp[mkv]);exact⟨.cons (hm _ h3 hne) h1,λs hs=>by cases hs with
   |head=>exact hm2 _ h4 hne
   |tail _ hs=>exact h2 s hs⟩
 | .own e sz rows::rs,v::vs,n,φ,.cons h hr,hφ,hU=>by
  obtain⟨h1,h2⟩:=dw rs vs (n+1) φ hr (λi u hi=>by rw[En,FC 1 i];exact hφ (i+1) u (by simpa[RV.vals]using hi))
   (λi hi=>by rw[En,FC 1 i];exact hU (i+1) (by simpa[RV.owns]using hi))
  refine⟨.cons ?_ h1,λs hs=> ?_⟩;·exact(hφ 0 v (by simp[RV.vals])).symm
  ·cases hs with
   |head=>exact hU 0 (by simp[RV.owns])
   |tail _ hs=>exact h2 s hs
theorem eM {w:World}{Z:Bool->Nat->Prop}{U:Nat->Prop}{fr:Bool}{φ:Nat->Value}{rs:List RV}{vs:List Value}{n:Nat}(h1:L2 (ay w Z φ) vs (RV.svs fr n rs))(h2: ∀s∈RV.svs fr n rs,s.in1 U):
  aU w Z φ (l8 vs) (RV.one fr n rs)/\(RV.one fr n rs).inU U:=by
 unfold RV.one;generalize RV.svs fr n rs=l at h1 h2;cases h1 with
 |nil=>exact⟨⟨[],rfl,.nil⟩,h2⟩
 | @cons v s vs l h hr=>
  cases hr with
  |nil=>
   have h3:=h2 s (.head _);cases s with
   |tupB ag l=>exact h.elim
   |_=>exact⟨h,h3⟩
  |cons h' hr'=>exact⟨⟨_,rfl,.cons h (.cons h' hr')⟩,h2⟩
end
section
variable {K:Ctx}{V:EnvF}{U:Nat->Prop}{φ:Nat->Value}{a:Act}{w:World}
theorem x3 (V:EnvF)(n:Nat):V.add n []=V:=by
 cases V;simp only[EnvF.add,EnvF.mk.injEq,true_and];funext o;simp only[cq,Ee,F1];rw[D2 (by omega)]
theorem e6 (U:Nat->Prop)(n:Nat):em U n []=U:=by
 funext o;simp only[em,Ee,F1,eq_iff_iff];exact⟨λh=>h.resolve_right (by omega),.inl⟩
theorem bD (b o n:Nat):(⟨b,o,none⟩:Addr).add n=⟨b,o+n,none⟩:=by unfold Addr.add;split<;>simp_all
theorem zQ {Z:Bool->Nat->Prop}{fr:Bool}{b off sz:Nat}{rows:List (List PV)}{xs:List Value}(hz:Z fr b)(hlt:b<w.heap.size)(h1: ∀r∈rows,r.length=sz)(h2: ∀r∈rows,∀p∈r,p.one=true)
  (h3: ∀j v,xs[j]? =some v->mJ w ⟨b,off+j,none⟩ v) (hl:L2 (Rep w (Z fr)) xs rows.flatten) {i:Nat} {r:List PV} (hi:rows[i]? =some r):
  ay w Z φ (.pointer (some ⟨b,off+i*sz,none⟩)) (.fptr fr r):=by
 obtain⟨rest,hrest⟩:=lN h1 hi;have hd:=hl.drop (i*sz);rw[hrest]at hd;have hd2:=hd.take r.length;rw[GU]at hd2;refine⟨b,off+i*sz,(xs.drop (i*sz)).take r.length,rfl,hz,hlt,hd2,h2 r (D7 hi),λj x hj=> ?_⟩;have hj2:(xs.drop (i*sz))[j]? =some x:=by
  rw[Ek]at hj;split at hj;·exact hj
  ·cases hj
 rw[En];exact h3 _ x (by simpa using hj2)
theorem jX (off:Nat): ∀(vs:List Value) (j:Nat) (cells:Array Value),off+j+vs.length<=cells.size->
  ((vs.zipIdx j).foldl (λcs (x:Value×Nat)=>cs.setIfInBounds (off+x.2) x.1) cells).toList=cells.toList.take (off+j)++vs++cells.toList.drop (off+j+vs.length)
 | [],j,cells,h=>by simp
 |v::vs,j,cells,h=>by
  simp only[H6,Dn];simp only[Dp]at h;have ih:=jX off vs (j+1) (cells.setIfInBounds (off+j) v) (by simp;omega);rw[ih,Fe];have:=list_seg_step cells.toList (off+j) v vs (by simp;omega);simpa[En]using this
theorem mE (h:RelW K V U φ a w){sz:Nat}: ∀(parts:List (Nat×Operand)) (k:Nat) (fr:Bool) (rows:List (List PV)) (cells:Array Value),c5 V sz k parts=some (fr,rows)->cells.size=(k+parts.length)*sz->
  ∃cells' xs,Instr.fill (λi=>some (i*sz,sz)) cells (parts.map λx=>(x.1,a.eval x.2))=some cells'/\cells'.toList=cells.toList.take (k*sz)++xs/\L2 (Rep w (Zf K V φ fr)) xs rows.flatten/\
   (∀r∈rows,r.length=sz)/\(∀r∈rows,∀p∈r,p.one=true)/\rows.length=parts.length
 | [],k,fr,rows,cells,hr,hs=>by
  simp only[c5,D6,Prod.mk.injEq]at hr;obtain⟨rfl,rfl⟩:=hr;refine⟨cells,[],rfl,?_,.nil,by simp,by simp,rfl⟩;rw[Ex,DS];simp at hs⊢;omega
 |(i,x)::parts,k,fr,rows,cells,hr,hs=>by
  simp only[c5]at hr;split at hr
  ·rename_i sv f' rows' hik hx hrest;split at hr
   ·rename_i fp p hp;split at hr
    ·rename_i hlen;simp only[D6,Prod.mk.injEq]at hr;obtain⟨rfl,rfl⟩:=hr;obtain rfl:=EV hik;have hlen':=EV hlen;have hrep:=bC h hx hp;have hc:=hrep.cells;have hcl:=hc.length;rw[EI]at hcl;simp only[Dp]at hs;have hsz:i*sz+sz<=cells.size:=by
      rw[hs,<-Fo];exact EA _ (by omega)
     have hf:=jX (i*sz) (a.eval x).cells.toList 0 cells (by simp;omega);simp only[F1,EI]at hf;obtain⟨cells',xs,h1,h2,h3,h4,h5,h6⟩:=mE h parts (i+1) f' rows' ((a.eval x).cells.toList.zipIdx.foldl (λcs (y:Value×Nat)=>cs.setIfInBounds (i*sz+y.2) y.1) cells) hrest (by
      rw[<-EI,hf];simp only[DX,Dx,GX,EI];rw[ES (by omega)];have:cells.size=(i+1+parts.length)*sz:=(by rw[hs];congr 1;omega);omega)
     refine⟨cells',(a.eval x).cells.toList++xs,?_,?_,?_,?_,?_,by simp[h6]⟩
     ·simp only[DZ,Instr.fill];rw[D2 (by simp;omega),<-h1];congr 1;rw[<-Fy,Gi]
     ·rw[h2,hf];rw[FW (by simp;rw[ES (by omega),hcl,hlen',FM];omega)];rw[DS (by simp;rw[hcl,hlen',FM];omega),E4]
     ·rw[EP];exact(hc.imp λ_ _ hq=>hq.weak (by simp;intro a _;exact a)).append (h3.imp λ_ _ hq=>hq.weak (by simp))
     ·intro r hr;cases hr with
      |head=>exact hlen'
      |tail _ hr=>exact h4 r hr
     ·intro r hr;cases hr with
      |head=>exact hrep.cells_one
      |tail _ hr=>exact h5 r hr
    ·cases hr
   ·cases hr
  ·cases hr
theorem cS (w:World)(o:Obj):Below w.heap.size w (w.alloc o):=(Below.refl _ _).alloc (DL _) o
theorem i6 (h:RelW K V U φ a w){t e:TypeId}{len:Nat}{fr:Bool}{parts:Array (Nat×Operand)}{rows:List (List PV)}{inf:TypeInfo}{z:Value}(hu:K.P.underlying t=some (.slice e))(hi:K.P.info? e=some inf)
  (hz:inf.zero=some z) (hzs:z.cells.size=inf.size) (hr:c5 V inf.size 0 parts.toList=some (fr,rows)) (hlen:rows.length=len) (hm:len*inf.size<=2 ^ 24):
  ∃cells:Array Value,(Instr.buildSlice t len (parts.map λ(i,x)=>(i,a.eval x))).run K.P w= .ok (.slice (some ⟨w.heap.size,0,none⟩) len len) (w.alloc (.cells cells e))/\cells.size=len*inf.size/\
   L2 (Rep w (Zf K V φ fr)) cells.toList rows.flatten/\(∀r∈rows,r.length=inf.size)/\(∀r∈rows,∀p∈r,p.one=true):=by
 have hpl:parts.toList.length=len:=by
  obtain⟨_,_,_,_,_,_,_,h6⟩:=mE h parts.toList 0 fr rows (Array.replicate (parts.toList.length*inf.size) undef) hr (by simp);omega
 let zs:Array Value:=if len*inf.size=0 then #[]else z.cells
 obtain⟨cells,xs,h1,h2,h3,h4,h5,h6⟩:=mE h parts.toList 0 fr rows ((Array.range (len*inf.size)).map (zs[· % zs.size]!)) hr (by simp[<-hpl]);simp only[HA,List.take_zero,Ea]at h2;have hlx:xs.length=len*inf.size:=by
  rw[h3.length,<-hlen];clear h1 h2 h3 h5 h6 hr hlen hm
  induction rows with
  |nil=>simp
  |cons r rows ih=>rw[EP,DX,h4 r (.head _),ih (λr hr=>h4 r (.tail _ hr)),Dp,Fo,FC]
 refine⟨cells,?_,by rw[<-EI,h2,hlx],by rw[h2];exact h3,h4,h5⟩;have hsz:=aM hi w;have hpm:(parts.map λ(i,x)=>(i,a.eval x)).toList=parts.toList.map λx=>(x.1,a.eval x.2):=(by simp);have hnm: ¬len*inf.size > 2 ^ 24:=(by omega);simp only[Instr.buildSlice,DK,run_underlying hu,DA,hsz];rw[D2 hnm];by_cases h0:len*inf.size=0
 ·have hz0:zs= #[]:=(by simp[zs,h0]);rw[hz0]at h1;simp only[D4 h0,DK,Dr,DA,hpm,h1];rfl
 ·have hz0:zs=z.cells:=(by simp[zs,h0]);have hzv:(zeroValue e).run K.P w= .ok z w:=(by simp[zeroValue,typeInfo,hi,hz]);rw[hz0]at h1;simp only[D2 h0,DK,Dr,hzv,DA,hpm,h1];rfl
theorem lU {n:Nat}{adds:List Own}{hs:List Value}(h:RelW K V U φ a w)(hn: ∀o,n<=o->o<n+adds.length->¬U o)(hl:hs.length=adds.length)(hnew: ∀(i:Nat) v g,hs[i]? =some v->VB v g->w.heap.size<=g)
  (b:Nat) (hb:Zof K V φ b) (hlt:b<w.heap.size):Zof K (V.add n adds) (bI φ n hs) b:=by
 refine⟨hb.1,λo c ho hv=> ?_⟩;simp only[EnvF.add,cq]at ho;split at ho
 ·rename_i hc;simp only[bI]at hv;rw[D4 (by omega)]at hv;have hlt2:o-n<hs.length:=(by omega);simp only[List.getD,D1 hlt2,Ed]at hv;have:=hnew (o-n) _ b (D1 hlt2) hv;omega
 ·rename_i hc;simp only[bI]at hv;rw[D2 (by omega)]at hv;exact hb.2 o c ho hv
theorem sW {n:Nat}{adds:List Own}{hs:List Value}(h:RelW K V U φ a w)(hn: ∀o,n<=o->o<n+adds.length->¬U o)(hl:hs.length=adds.length)(hnew: ∀(i:Nat) v g,hs[i]? =some v->VB v g->w.heap.size<=g)
  (f:Bool) (b:Nat) (hb:Zf K V φ f b) (hlt:b<w.heap.size):Zf K (V.add n adds) (bI φ n hs) f b:=⟨lU h hn hl hnew b hb.1 hlt,hb.2⟩
theorem mK: ∀(vs:List Value) (l:List SV),f9 vs=some l->L2 (ay w (Zf K V φ) φ) vs l/\∀s∈l,s.in1 U
 | [],l,h=>by simp only[f9,D6]at h;subst h;exact⟨.nil,λs hs=>by cases hs⟩
 |v::vs,l,h=>by
  simp only[f9]at h;split at h
  ·rename_i p l' hp hps;obtain rfl:=D3 h;obtain⟨h1,h2⟩:=mK vs l' hps;split at hp
   ·obtain rfl:=D3 hp;exact⟨.cons Y h1,λq hq=>by cases hq with
     |head=>trivial
     |tail _ hq=>exact h2 q hq⟩
   ·obtain rfl:=D3 hp;exact⟨.cons (Rep.raw _ Y) h1,λq hq=>by cases hq with
     |head=>trivial
     |tail _ hq=>exact h2 q hq⟩
   ·obtain⟨q0,hq0,rfl⟩:=DY.1 hp;have hr:=sI (w:=w) (Z:=Zf K V φ true) hq0;exact⟨.cons hr h1,λq hq=>by cases hq with
     |head=>trivial
     |tail _ hq=>exact h2 q hq⟩
  ·cases h
theorem q8 {R:Value->SV->Prop}(off:Nat): ∀(vs:List Value) (ps:List SV) (k:Nat) (cells:Array Value) (cs:List SV),L2 R vs ps->L2 R cells.toList cs->
  L2 R ((vs.zipIdx k).foldl (λcs (x:Value×Nat)=>cs.setIfInBounds (off+x.2) x.1) cells).toList (qm cs (off+k) ps)
 |_,_,k,cells,cs,.nil,hc=>by simpa[qm]using hc
 |v::vs,p::ps,k,cells,cs,.cons h hr,hc=>by
  simp only[H6,Dn,qm];have:=q8 off vs ps (k+1) (cells.setIfInBounds (off+k) v) (cs.set (off+k) p) hr (by rw[Fe];exact hc.set _ h);simpa[En]using this
theorem md {p:SV->Prop}: ∀(ps cs:List SV) (n:Nat),(∀s∈cs,p s)->(∀s∈ps,p s)->∀s∈qm cs n ps,p s
 | [],cs,n,h,_=>h
 |q::ps,cs,n,h,h2=>md ps (cs.set n q) (n+1) (λs hs=>by
   rcases DV hs with h3|h3;·exact h s h3
   ·rw[h3];exact h2 q (.head _)) (λs hs=>h2 s (.tail _ hs))
theorem iz (h:RelW K V U φ a w){pl:List (Nat×Nat)}: ∀(ps:List (Nat×Operand)) (cells:Array Value) (cs l:List SV),e8 V pl cs ps=some l->L2 (ay w (Zf K V φ) φ) cells.toList cs->(∀s∈cs,s.in1 U)->
  ∃cells',Instr.fill (pl.toArray[·]?) cells (ps.map λ(i,x)=>(i,a.eval x))=some cells'/\L2 (ay w (Zf K V φ) φ) cells'.toList l/\∀s∈l,s.in1 U
 | [],cells,cs,l,hf,hc,hi=>by
  simp only[e8,D6]at hf;subst hf;exact⟨cells,rfl,hc,hi⟩
 |(i,x)::ps,cells,cs,l,hf,hc,hi=>by
  simp only[e8]at hf;split at hf
  ·rename_i sv off hx hpl;split at hf
   ·rename_i hok hlt;obtain⟨hr,hin⟩:=ae h hx;have key:ay w (Zf K V φ) φ (a.eval x) sv/\sv.in1 U/\(a.eval x).oneCell'=true:=by
     cases sv with
     |val fr p=>exact⟨hr,hin,Rep.one hr hok⟩
     |nilsl=>
      have hr:a.eval x= .slice none 0 0:=hr;exact⟨hr,hin,by rw[hr];rfl⟩
     |ref q=>
      have hr:a.eval x=φ q:=hr;refine⟨hr,hin,?_⟩;simp only[gL]at hok;split at hok
      ·rename_i e sz fr rows ho;obtain⟨xs,hrow,_⟩:=h.own q _ ho;rcases hrow.2 with ⟨hv,_⟩|⟨g,cap,cur,hv,_⟩<;>rw[hr,hv]<;>rfl
      ·cases hok
     |_=>simp[gL]at hok
    obtain⟨k1,k2,k3⟩:=key;have hcl:=hc.length;rw[EI]at hcl;have hlt:off<cs.length:=(by rw[Fd]at hlt;exact hlt);have hvc:(a.eval x).cells= #[a.eval x]:=by
     have:=cells_one k3;rw[<-EQ (xs:=(a.eval x).cells),this]
    have hnew:L2 (ay w (Zf K V φ) φ) (cells.setIfInBounds off (a.eval x)).toList (cs.set off sv):=by
     rw[Fe];exact hc.set _ k1
    obtain⟨cells',hfill,h3,h4⟩:=iz h ps _ _ l hf hnew (λs hs=>by
     rcases DV hs with h5|rfl;·exact hi s h5
     ·exact k2)
    refine⟨cells',?_,h3,h4⟩;simp only[F8]at hfill;simp only[DZ,Instr.fill,F8,hpl,hvc];rw[D2 (by simp;omega)];rw[<-hfill];simp
   ·cases hf
  ·rename_i l2 off n _ hx hpl;split at hf
   ·rename_i hok hln hle;obtain⟨hr,hin⟩:=ae h hx;obtain⟨vs,hv,hl2⟩: ∃vs:List Value,a.eval x=B9 true vs.toArray/\L2 (ay w (Zf K V φ) φ) vs l2:=hr;have hv:a.eval x= .agg vs.toArray:=hv;have hin: ∀s∈l2,s.in1 U:=hin;have hcl:=hc.length;rw[EI]at hcl;have hln:=EV hln;have hle:=Dy hle;have hvl:=hl2.length;have hnew:=q8 off vs l2 0 cells cs hl2 hc;obtain⟨cells',hfill,h3,h4⟩:=iz h ps _ _ l hf hnew (md _ _ _ hi hin);refine⟨cells',?_,h3,h4⟩;simp only[F8]at hfill;have hvc:(a.eval x).cells=vs.toArray:=(by rw[hv];rfl);simp only[DZ,Instr.fill,F8,hpl,hvc];rw[D2 (by simp;omega)];rw[<-hfill];congr 1;rw[<-Fy,Gi]
   ·cases hf
  ·cases hf
theorem pS (h:RelW K V U φ a w){t:TypeId}{parts:Array (Nat×Operand)}{l:List SV}(hb:fB K.P V t parts.toList=some l):
  ∃cells':Array Value,(Instr.build t (parts.map λ(i,x)=>(i,a.eval x))).run K.P w= .ok (.agg cells') w/\L2 (ay w (Zf K V φ) φ) cells'.toList l/\∀s∈l,s.in1 U:=by
 simp only[fB]at hb;split at hb
 ·rename_i fs i hu hi;split at hb
  ·rename_i z hz;split at hb
   ·rename_i zs pl hzs hpl;obtain⟨h3,h2⟩:=mK (K:=K) (V:=V) (φ:=φ) (w:=w) (U:=U) _ _ hzs;obtain⟨cells',hfill,h4,h5⟩:=iz h parts.toList z.cells _ l hb h3 h2;refine⟨cells',?_,h4,h5⟩;refine run_build w t _ cells' ?_;simp only[Program.built,hi,hu,hz];have:fs.toList.mapM (λf=>(K.P.info? f.type).map λi=>(f.offset,i.size))=some pl:=hpl;simp only[this];rw[<-hfill];simp
   ·cases hb
  ·cases hb
 ·cases hb
theorem Does.sound (h:RelW K V U φ a w){n:Nat}{o:Oper}{sv:SV}{adds:List Own}(hd:Does K V n o sv adds)(hn: ∀o,n<=o->o<n+adds.length->¬U o)
  {next:Act->World->Prop} {Q:Exit->Act->World->Prop}
  (hk: ∀v w' φ',RelW K (V.add n adds) (em U n adds) φ' a w'->aU w' (Zf K (V.add n adds) φ') φ' v sv->sv.inU (em U n adds)->next (a.put o.dst v) w'):o.wp K.P a w next Q:=by
 have none_:adds=[]->∀v,aU w (Zf K V φ) φ v sv->sv.inU U->next (a.put o.dst v) w:=by
  intro e v h1 h2;subst e;have:=hk v w φ;rw[x3,e6]at this;exact this h h1 h2
 cases hd with
 |ev he=>
  obtain⟨v,hv,h1,h2⟩:=uS h he;unfold Oper.wp;rw[hv];exact none_ Y v h1 h2
 | @buildR t parts l ho hb=>
  obtain⟨cells',hrun,h1,h2⟩:=pS h hb;unfold Oper.wp;rw[show(execOp a.eval o).run K.P w= .ok (.value (.agg cells')) w by simp[execOp,ho,hrun]];exact none_ Y (.agg cells') ⟨cells'.toList,by simp[B9],h1⟩ h2
 | @idxf t x i sx fr fi rows r k m e inf ho hx hfz hi hu hinf h0 hr hrl=>
  have hrep:=bC h hx hfz;obtain⟨hri,_⟩:=ae h hi;generalize hvx:a.eval x=vx at hrep;generalize hvi:a.eval i=vi at hri;cases hri;cases hrep with
  |nilsl=>simp at hr
  |slE=>simp at hr
  |sl b off cap sz rows xs hz hlt h1 h2 h3 h4 h5 hl=>
   have hmlt:m.toNat<rows.length:=(D5.1 hr).1;have hsz:inf.size=sz:=(by rw[<-hrl];exact h1 r (D7 hr));have hrun:(execOp a.eval o).run K.P w= .ok (.value (.pointer (some ⟨b,off+m.toNat*sz,none⟩))) w:=by
    have:0<=m/\m<(rows.length:Int):=⟨h0,by omega⟩;simp[execOp,ho,hvx,hvi,Instr.indexAt,asIntOf,run_underlying hu,this,aM hinf,bD,hsz]
   unfold Oper.wp;rw[hrun];exact none_ Y _ (zQ (φ:=φ) (Z:=Zf K V φ) hz hlt h1 h2 h3 hl hr) trivial
 | @idxo t x i q fr fi rows k m e' e sz inf ho hx hq hi hu hinf h0 hm hsz=>
  obtain⟨hrx,hlx⟩:=ae h hx;obtain⟨hri,_⟩:=ae h hi;generalize hvi:a.eval i=vi at hri;cases hri;simp only[aU,ay]at hrx;obtain⟨xs,hown,_⟩:=h.own q _ hq;rcases hown.2 with ⟨hv,hn0⟩|⟨g,cap,cur,hv,_⟩;·omega
  ·have hrun:(execOp a.eval o).run K.P w= .ok (.value (.pointer (some ⟨g,m.toNat*sz,none⟩))) w:=by
    have:0<=m/\m<(rows.length:Int):=⟨h0,by omega⟩;simp[execOp,ho,hrx,hv,hvi,Instr.indexAt,asIntOf,run_underlying hu,this,aM hinf,bD,hsz]
   unfold Oper.wp;rw[hrun];exact none_ Y _ ⟨g,by rw[hv];rfl,by simp⟩ hlx
 | @slf t x lo hi sx fr fl fh rows e inf l hh kl kh ho hx hfz hu hinf hlo hhi h0 hle hlen hsz=>
  have hrep:=bC h hx hfz;have elo:lo=none/\l=0∨∃y,lo=some y/\a.eval y= .int kl l:=by
   rcases hlo with h|⟨y,hy,hg⟩;·exact .inl h
   ·obtain⟨hr,_⟩:=ae h hg;generalize hv:a.eval y=v at hr;cases hr;exact .inr ⟨y,hy,hv⟩
  have ehi:hi=none/\hh=rows.length∨∃y,hi=some y/\a.eval y= .int kh hh:=by
   rcases hhi with h|⟨y,hy,hg⟩;·exact .inl h
   ·obtain⟨hr,_⟩:=ae h hg;generalize hv:a.eval y=v at hr;cases hr;exact .inr ⟨y,hy,hv⟩
  generalize hvx:a.eval x=vx at hrep;have hbounds: ∀cap:Nat,rows.length<=cap->(Instr.sliceBounds true rows.length cap (lo.map a.eval) (hi.map a.eval) none).run K.P w= .ok (l.toNat,hh.toNat,cap) w:=by
   intro cap hcap;have e1:(hh.toNat:Int)=hh:=FL (by omega);rcases elo with ⟨rfl,rfl⟩|⟨y,rfl,hy⟩<;>rcases ehi with ⟨rfl,rfl⟩|⟨z,rfl,hz⟩;·simp[Instr.sliceBounds]
   ·have:0<=hh/\hh<=(cap:Int):=(by omega);simp[Instr.sliceBounds,hz,Instr.sliceBound,asIntOf,this]
   ·have:0<=l/\l<=(rows.length:Int):=(by omega);simp[Instr.sliceBounds,hy,Instr.sliceBound,asIntOf,this]
   ·have h1:0<=hh/\hh<=(cap:Int):=(by omega);have h2:0<=l/\l<=(hh.toNat:Int):=(by omega);simp only[Instr.sliceBounds,EG,hy,hz,DK,Dr,DA];rw[run_sliceBound w kh hh cap _ h1.1 h1.2];simp only[DA];rw[run_sliceBound w kl l hh.toNat _ h2.1 h2.2];rfl
  cases hrep with
  |nilsl=>
   have e1:hh=0:=(by simp at hlen;omega);have e2:l=0:=(by omega);subst e1 e2;have hb:=hbounds 0 (by simp);simp only[Ee]at hb;have hrun:(execOp a.eval o).run K.P w= .ok (.value (.slice none 0 0)) w:=by
    simp only[execOp,ho,hvx,DK,Instr.sliceAt,Instr.slice,run_underlying hu,DA,FN,hb,aM hinf];rfl
   unfold Oper.wp;rw[hrun];exact none_ Y _ (by simp only[List.take_nil,List.drop_nil];exact Rep.nilsl) trivial
  |slE ad cap hcm=>
   have e1:hh=0:=(by simp at hlen;omega);have e2:l=0:=(by omega);subst e1 e2;have hb:=hbounds cap (by simp);simp only[Ee]at hb;have hrun:(execOp a.eval o).run K.P w= .ok (.value (.slice (if cap=(0:Int).toNat then some ad else(some ad).map (·.add ((0:Int).toNat*inf.size))) ((0:Int).toNat-(0:Int).toNat) (cap-(0:Int).toNat))) w:=by
    simp only[execOp,ho,hvx,DK,Instr.sliceAt,Instr.slice,run_underlying hu,DA,FN,hb,aM hinf];rfl
   unfold Oper.wp;rw[hrun];refine none_ Y _ ?_ trivial;simp only[List.take_nil,List.drop_nil];split;·exact Rep.slE _ _ (by simpa using hcm)
   ·exact Rep.slE _ _ (by simpa using hcm)
  |sl b off cap sz rows xs hz hlt h1 h2 h3 h4 h5 hl=>
   have hb:=hbounds cap h4;have hrun:(execOp a.eval o).run K.P w= .ok (.value (.slice (if cap=l.toNat then some ⟨b,off,none⟩else(some (⟨b,off,none⟩:Addr)).map (·.add (l.toNat*inf.size))) (hh.toNat-l.toNat) (cap-l.toNat))) w:=by
    simp only[execOp,ho,hvx,DK,Instr.sliceAt,Instr.slice,run_underlying hu,DA,FN,hb,aM hinf];rfl
   unfold Oper.wp;rw[hrun];refine none_ Y _ ?_ trivial;have hlr:((rows.take hh.toNat).drop l.toNat).length=hh.toNat-l.toNat:=by
    rw[GX,Dx];omega
   rw[<-hlr];by_cases hc:cap=l.toNat
   ·rw[D4 hc];have hnil:(rows.take hh.toNat).drop l.toNat=[]:=DP (by rw[hlr];omega);rw[hnil];exact .sl b off _ sz [] [] hz hlt (by simp) (by simp) (by simp) (by simp) (by omega) .nil
   ·rw[D2 hc];simp only[EG,bD];refine .sl b (off+l.toNat*inf.size) _ inf.size _ ((xs.drop (l.toNat*inf.size)).take ((hh.toNat-l.toNat)*inf.size)) hz hlt ?_ ?_ ?_ (by rw[hlr];omega) (by omega) ?_;·exact λr hr=>hsz r (Eg (Et hr))
    ·exact λr hr=>h2 r (Eg (Et hr))
    ·intro j v hj;rw[Ek]at hj;split at hj;·rw[En];exact h3 _ v (by simpa using hj)
     ·cases hj
    ·have hfl: ∀(rows:List (List PV)),(∀r∈rows,r.length=inf.size)->∀i j,(rows.flatten.drop (i*inf.size)).take (j*inf.size)=((rows.drop i).take j).flatten:=by
      intro rows hs;have hdrop: ∀i,rows.flatten.drop (i*inf.size)=(rows.drop i).flatten:=by
       intro i
       induction rows generalizing i with
       |nil=>simp
       |cons r rows ih=>
        cases i with
        |zero=>simp
        |succ i=>
         have hr0:=hs r (.head _);rw[EP,List.drop_append,GT (by rw[FM];omega),Ea,List.drop_succ_cons,<-ih (λr hr=>hs r (.tail _ hr)) i];congr 1;rw[FM];omega
      have htake: ∀(rows:List (List PV)),(∀r∈rows,r.length=inf.size)->∀j,rows.flatten.take (j*inf.size)=(rows.take j).flatten:=by
       intro rows hs j
       induction rows generalizing j with
       |nil=>simp
       |cons r rows ih=>
        cases j with
        |zero=>simp
        |succ j=>
         have hr0:=hs r (.head _);rw[EP,List.take_append,DS (by rw[FM];omega),Gj,EP,<-ih (λr hr=>hs r (.tail _ hr)) j];congr 2;rw[FM];omega
      intro i j;rw[hdrop,htake _ (λr hr=>hs r (Et hr))]
     have:=(hl.drop (l.toNat*inf.size)).take ((hh.toNat-l.toNat)*inf.size);rw[hfl rows hsz]at this;rw[List.drop_take];exact this
 | @box t x sx fr p ho hx hfz=>
  have hrep:=bC h hx hfz;have hrun:(execOp a.eval o).run K.P w= .ok (.value (.pointer (some ⟨w.heap.size,0,none⟩))) (w.alloc (.cells (a.eval x).cells t)):=by
   simp only[execOp,ho,Instr.box,newVar,newRow,DK,run_newObj,DA];rfl
  unfold Oper.wp;rw[hrun];have hz:=sW (n:=n) (adds:=[.box fr p.cells]) (hs:=[.pointer (some ⟨w.heap.size,0,none⟩)]) h hn Y (λi v g hi hg=>by
   cases i with
   |zero=>simp at hi;subst hi;simp[VB,ax]at hg;omega
   |succ i=>simp at hi)
  refine hk _ _ _ (h.add (cS w _) n _ [.pointer (some ⟨w.heap.size,0,none⟩)] hn Y ?_ ?_) ⟨w.heap.size,?_,by simp⟩ (.inr ⟨DL _,by simp⟩)
  ·intro i c v hc hv;cases i with
   |succ i=>simp at hc
   |zero=>
    simp at hc hv;subst hc hv;refine⟨⟨w.heap.size,t,(a.eval x).cells,rfl,heap_alloc_new w _,?_,hrep.cells_one⟩,λg hg=>by simp[VB,ax]at hg;omega⟩;exact Rep.monoL (λb hb hlt=>⟨hz fr b hb hlt,heap_alloc_old w _ b hlt⟩) hrep.cells
  ·intro i j v v' g hi hj _ _;cases i<;>cases j<;>simp_all
  ·simp[bI,ax]
 | @gen xs l r hin hl hrun=>
  have h1:=d8 h xs l hl;obtain⟨z,h2,h3⟩:=hrun a w (Rep.monoL (λb _ _=>⟨trivial,rfl⟩) h1);unfold Oper.wp;rw[h2];exact none_ Y _ (h3 _) trivial
 | @alloc t ps inf z ho hi hz hps=>
  have hti:(typeInfo t).run K.P w= .ok inf w:=(by simp[typeInfo,hi]);have hzv:(zeroValue t).run K.P w= .ok z w:=by
   simp only[zeroValue,DK,hti,DA,hz,Dr]
  have hrun:(execOp a.eval o).run K.P w= .ok (.value (.pointer (some ⟨w.heap.size,0,none⟩))) (w.alloc (.cells z.cells t)):=by
   simp only[execOp,ho,Instr.alloc,newVar,newRow,DK,hzv,run_newObj,DA];rfl
  unfold Oper.wp;rw[hrun];refine hk _ _ _ (h.add (cS w _) n _ [.pointer (some ⟨w.heap.size,0,none⟩)] hn Y ?_ ?_) ⟨w.heap.size,?_,by simp⟩ (.inr ⟨DL _,by simp⟩)
  ·intro i c v hc hv;cases i with
   |succ i=>simp at hc
   |zero=>
    simp at hc hv;subst hc hv;obtain⟨h1,h2⟩:=j6 (w:=w.alloc (.cells z.cells t)) (Z:=Zf K (V.add n [.box true ps]) (bI φ n [.pointer (some ⟨w.heap.size,0,none⟩)]) true) _ _ hps;exact⟨⟨w.heap.size,t,z.cells,rfl,heap_alloc_new w _,h1,h2⟩,λg hg=>by simp[VB,ax]at hg;omega⟩
  ·intro i j v v' g hi hj _ _;cases i<;>cases j<;>simp_all
  ·simp[bI,ax]
 | @bsv t e len fr parts rows inf z ho hu hi hz hzs hr hlen hm hmx=>
  obtain⟨cells,hrun,hcs,hl,h1,h2⟩:=i6 h hu hi hz hzs hr hlen hm;have hrun':(execOp a.eval o).run K.P w= .ok (.value (.slice (some ⟨w.heap.size,0,none⟩) len len)) (w.alloc (.cells cells e)):=by
   simp only[execOp,ho,DK,hrun,DA];rfl
  unfold Oper.wp;rw[hrun'];have hw:=h.world (cS w (.cells cells e));have:=hk (.slice (some ⟨w.heap.size,0,none⟩) len len) (w.alloc (.cells cells e)) φ;rw[x3,e6]at this;refine this hw ?_ trivial;have hmono: ∀b,Zf K V φ fr b->b<w.heap.size->Zf K V φ fr b/\(w.alloc (.cells cells e)).heap[b]? =w.heap[b]? :=λb hb hlt=>⟨hb,heap_alloc_old w _ b hlt⟩;subst hlen;refine Rep.sl w.heap.size 0 rows.length inf.size rows cells.toList ⟨⟨.inl h.kept.size,λq c hq hv=> ?_⟩,λ_=>K.hF _ h.kept.size⟩ (DR.1 (heap_alloc_new w (.cells cells e))).1 h1 h2 (λj v hj=> ?_) (DL _) ?_ (Rep.monoL hmono hl);·have:=(h.own q c hq).lt hv;omega
  ·refine bY (heap_alloc_new w _) ?_;rw[Ew,cell_of_row _ w.heap.size j cells e (0,0) (heap_alloc_new w _)];simpa using hj
  ·exact Du hmx (by decide)
 | @bso t e len fr parts rows inf z ho hu hi hz hzs hr hlen hm hmx=>
  obtain⟨cells,hrun,hcs,hl,h1,h2⟩:=i6 h hu hi hz hzs hr hlen hm;have hrun':(execOp a.eval o).run K.P w= .ok (.value (.slice (some ⟨w.heap.size,0,none⟩) len len)) (w.alloc (.cells cells e)):=by
   simp only[execOp,ho,DK,hrun,DA];rfl
  unfold Oper.wp;rw[hrun'];subst hlen;have hz:=sW (n:=n) (adds:=[.sl e inf.size fr rows]) (hs:=[.slice (some ⟨w.heap.size,0,none⟩) rows.length rows.length]) h hn Y (λi v g hi hg=>by
   cases i with
   |zero=>simp at hi;subst hi;simp[VB,ax]at hg;omega
   |succ i=>simp at hi)
  refine hk _ _ _ (h.add (cS w _) n _ [.slice (some ⟨w.heap.size,0,none⟩) rows.length rows.length] hn Y ?_ ?_) (by simp[aU,ay,bI]) (.inr ⟨DL _,by simp⟩)
  ·intro i c v hc hv;cases i with
   |succ i=>simp at hc
   |zero=>
    simp at hc hv;subst hc hv;refine⟨⟨cells.toList,⟨by simp[hcs],.inr ⟨w.heap.size,rows.length,cells,rfl,Dz _,heap_alloc_new w _,DL _,?_,hcs,?_⟩⟩,?_,h1,h2⟩,λg hg=>by simp[VB,ax]at hg;omega⟩;·exact Du hmx (by decide)
    ·rw[DS (by simp[hcs])]
    ·exact Rep.monoL (λb hb hlt=>⟨hz fr b hb hlt,heap_alloc_old w _ b hlt⟩) hl
  ·intro i j v v' g hi hj _ _;cases i<;>cases j<;>simp_all
 | @genO xs l c hin hl hrun=>
  obtain⟨z,w',hr,hb,hc,hg⟩:=hrun a w ((d8 h xs l hl).imp λv p hp=>Rep.mono (λb _ _=>⟨trivial,rfl⟩) hp);unfold Oper.wp;rw[hr];refine hk _ _ _ (h.add hb n _ [z] hn Y ?_ ?_) (by simp[aU,ay,bI]) (.inr ⟨DL _,by simp⟩)
  ·intro i c' v hc' hv;cases i with
   |succ i=>simp at hc'
   |zero=>
    simp at hc' hv;subst hc' hv;exact⟨hc _,hg⟩
  ·intro i j v v' g hi hj _ _;cases i<;>cases j<;>simp_all
 | @call x args tys f first caps ps al fx res ho hx hargs hspec=>
  obtain⟨hr,_⟩:=ae h hx;generalize hvx:a.eval x=vx at hr;cases hr with
  |fn _ vs us _ _ hf hc=>
  obtain⟨fn,hfn,hbody,hname⟩:=hspec.isFn;have hrun:(execOp a.eval o).run K.P w= .ok (.enter f (vs++args.toList.map a.eval++us).toArray) w:=by
   have hb:fn.body.isNone=false:=(by cases hfb:fn.body<;>simp_all);simp only[execOp,ho,resolve,hvx,Deferred.ofValue,DK,Dr,DA,invoke,callFunc,run_program,hfn,hname,hb,EF,if_false];congr 2;apply Array.ext';simp
  unfold Oper.wp;rw[hrun];have hall:L2 (Rep w (λb=>al=true->Zof K V φ b)) (vs++args.toList.map a.eval++us) (first++ps++caps):=
   ((Rep.monoL (λb hb _=>⟨λ_=>hb.1,rfl⟩) hf).append (iJ h _ _ hargs)).append (Rep.monoL (λb hb _=>⟨λ_=>hb.1,rfl⟩) hc)
  refine(hspec.out w _ _ hall).mono ?_;rintro e w' ⟨rs,rfl,hb,hret⟩;have hvl:=mN hret.each (!al);have hz:=lU (n:=n) (adds:=RV.owns (!al) res) (hs:=RV.vals res rs) h hn hvl (λi v g hi hg=>hret.fresh v g (D7 hi) hg);have hφ: ∀(i:Nat) v,(RV.vals res rs)[i]? =some v->bI φ n (RV.vals res rs) (n+i)=v:=by
   intro i v hi;have hlt:=(D5.1 hi).1;simp only[bI];rw[D4 (by omega)];simp[List.getD,hi]
  have hzz: ∀b,((al=true/\(al=true->Zof K V φ b))∨w.heap.size<=b)/\(∀v,v∈RV.vals res rs->¬VB v b)->b<w'.heap.size->Zf K (V.add n (RV.owns (!al) res)) (bI φ n (RV.vals res rs)) (!al) b/\w'.heap[b]? =w'.heap[b]? :=by
   rintro b ⟨hb1,hb2⟩ _;refine⟨?_,rfl⟩;have hold: ∀q c,V.own q=some c->¬VB (φ q) b:=by
    intro q c hq hv;rcases hb1 with ⟨hal,hzb⟩|hge;·exact(hzb hal).2 q c hq hv
    ·have:=(h.own q c hq).lt hv;omega
   refine⟨⟨?_,λq c hq hv=> ?_⟩,λhfr=> ?_⟩
   rotate_left 2
   ·rcases hb1 with ⟨hal,_⟩|hge;·rw[hal]at hfr;cases hfr
    ·exact K.hF _ (Du h.kept.size hge)
   ·rcases hb1 with ⟨hal,hzb⟩|hge;·exact(hzb hal).1
    ·exact .inl (Du h.kept.size hge)
   ·simp only[EnvF.add,cq]at hq;split at hq
    ·rename_i hc;simp only[bI]at hv;rw[D4 (by omega)]at hv;have hlt2:q-n<(RV.vals res rs).length:=(by omega);simp only[List.getD,D1 hlt2,Ed]at hv;exact hb2 _ (D8 hlt2) hv
    ·rename_i hc;simp only[bI]at hv;rw[D2 (by omega)]at hv;exact hold q c hq hv
  have heach:L2 (RV1 w' (Zf K (V.add n (RV.owns (!al) res)) (bI φ n (RV.vals res rs)) (!al))) rs res:=by
   refine hret.each.imp λv r hv=> ?_;cases r with
   |val p=>exact Rep.mono hzz hv
   |own e sz rows=>exact ar.mono (Z:=λ_ b=>((al=true/\(al=true->Zof K V φ b))∨w.heap.size<=b)/\∀v,v∈RV.vals res rs->¬VB v b) (c:= .sl e sz true rows) hv (λ_ _=>rfl) λ_=>hzz
  have hrel:=h.add hb n (RV.owns (!al) res) (RV.vals res rs) hn hvl (λi c v hc hv=>by
   obtain⟨c',hc',hr'⟩:=(tM (Z:=Zf K (V.add n (RV.owns (!al) res)) (bI φ n (RV.vals res rs))) heach).getl hv;rw[hc]at hc';obtain rfl:=D3 hc';exact⟨hr',λg hg=>hret.fresh v g (D7 hv) hg⟩) (λi j v v' g hi hj hv hv'=>hret.dis i j v v' g hi hj hv hv')
  obtain⟨h1,h2⟩:=dw (Z:=Zf K (V.add n (RV.owns (!al) res)) (bI φ n (RV.vals res rs))) res rs n (bI φ n (RV.vals res rs)) (U:=em U n (RV.owns (!al) res)) heach hφ (λi hi=> .inr ⟨by omega,by omega⟩);obtain⟨h3,h4⟩:=eM h1 h2;exact hk _ w' _ hrel h3 h4
inductive DoesB (K:Ctx)(V:EnvF)(n:Nat)(o:Oper)(g q q2:Nat):SV->List Own->Prop
 |mk {y x:Operand} {args:Array Operand} {tys:Array TypeId} {f:FuncId} {fx frb fr:Bool} {res:List RV} {row:List PV} {e:TypeId} {sz:Nat} {rows:List (List PV)} {u:Value}:o.op= .call { callee:= .value y,args:=args,argTypes:=tys }->V.get y=some (.val fx (.fn (.func f) [] []))->args.toList=[x]->
   V.get x=some (.optr q 0 0 0)->V.own q=some (.box frb (.raw u::row))->V.slot g=some (.eq u q2)->V.own q2=some (.sl e sz fr rows)->Spec K.P f false [.ptr [.sl rows]] res->DoesB K V n o g q q2 (RV.one true n res) (RV.owns true res)
 |agg {y x:Operand} {xs:List Operand} {args:Array Operand} {tys:Array TypeId} {f:FuncId} {fx fa fr:Bool} {res:List RV} {row ps:List PV} {e:TypeId} {sz:Nat} {rows:List (List PV)} {u:Value}:o.op= .call { callee:= .value y,args:=args,argTypes:=tys }->V.get y=some (.val fx (.fn (.func f) [] []))->args.toList=x::xs->
   V.get x=some (.val fa (.agg (.raw u::row)))->bW V false xs=some ps->V.slot g=some (.eq u q2)->V.own q2=some (.sl e sz fr rows)->Spec K.P f false (.agg (.sl rows::row)::ps) res->DoesB K V n o g q q2 (RV.one true n res) (RV.owns true res)
theorem k9 (h:RelW K V U φ a w){q e sz:Nat}{fr:Bool}{rows:List (List PV)}(ho:V.own q=some (.sl e sz fr rows)):Rep w (λ_=>True) (φ q) (.sl rows):=by
 obtain⟨xs,hown,hl,h1,h2⟩:=h.own q _ ho;have hl':L2 (Rep w (λ_=>True)) xs rows.flatten:=Rep.monoL (λb hb _=>⟨trivial,rfl⟩) hl;have hlt:=hown.lt;have hcell:=λg hg=>hown.cells (g:=g) hg;rcases hown.2 with ⟨hv,hn⟩|⟨g,cap,cur,hv,_,hg,hnc,hcm,_⟩
 ·rw[hv];have:rows=[]:=DP hn;subst this;exact .nilsl
 ·rw[hv]at hcell hlt⊢;refine .sl g 0 cap sz rows xs trivial (hlt g Y).2 h1 h2 (λj v hj=> ?_) hnc hcm hl';have:=hcell g Y j v hj;rw[bD]at this;exact bY hg this
theorem DoesB.run (h:RelW K V U φ a w){n:Nat}{o:Oper}{y:Operand}{args:Array Operand}{tys:Array TypeId}{f:FuncId}{fx:Bool}{res:List RV}{ps:List PV}(ho:o.op= .call { callee:= .value y,args:=args,argTypes:=tys })(hx0:V.get y=some (.val fx (.fn (.func f) [] [])))(hspec:Spec K.P f false ps res)
  (hbody:L2 (Rep w (λ_=>True)) (args.toList.map a.eval) ps) (hn: ∀o,n<=o->o<n+(RV.owns true res).length->¬U o)
  {next:Act->World->Prop} {Q:Exit->Act->World->Prop}
  (hk: ∀v w' φ',RelW K (V.add n (RV.owns true res)) (em U n (RV.owns true res)) φ' a w'->aU w' (Zf K (V.add n (RV.owns true res)) φ') φ' v (RV.one true n res)->(RV.one true n res).inU (em U n (RV.owns true res))->next (a.put o.dst v) w'):o.wp K.P a w next Q:=by
 obtain⟨hr,_⟩:=ae h hx0;generalize hvx:a.eval y=vx at hr;cases hr with
 |fn _ vs us _ _ hf hc=>
 cases hf;cases hc;obtain⟨fn,hfn,hfb,hname⟩:=hspec.isFn;have hrun:(execOp a.eval o).run K.P w= .ok (.enter f (args.toList.map a.eval).toArray) w:=by
  have hb:fn.body.isNone=false:=(by cases hfb2:fn.body<;>simp_all);simp only[execOp,ho,resolve,hvx,Deferred.ofValue,DK,Dr,DA,invoke,callFunc,run_program,hfn,hname,hb,EF,if_false];congr 2;apply Array.ext';simp
 unfold Oper.wp;rw[hrun];refine(hspec.out w (λ_=>True) _ hbody).mono ?_;rintro e w' ⟨rs,rfl,hb,hret⟩;have hvl:=mN hret.each true;have hz:=lU (n:=n) (adds:=RV.owns true res) (hs:=RV.vals res rs) h hn hvl (λi v g hi hg=>hret.fresh v g (D7 hi) hg);have hφ: ∀(i:Nat) v,(RV.vals res rs)[i]? =some v->bI φ n (RV.vals res rs) (n+i)=v:=by
  intro i v hi;have hlt:=(D5.1 hi).1;simp only[bI];rw[D4 (by omega)];simp[List.getD,hi]
 have hzz: ∀b,((false=true/\True)∨w.heap.size<=b)/\(∀v,v∈RV.vals res rs->¬VB v b)->b<w'.heap.size->Zf K (V.add n (RV.owns true res)) (bI φ n (RV.vals res rs)) true b/\w'.heap[b]? =w'.heap[b]? :=by
  rintro b ⟨hb1,hb2⟩ _;refine⟨?_,rfl⟩;have hold: ∀q c,V.own q=some c->¬VB (φ q) b:=by
   intro q c hq hv;rcases hb1 with ⟨hal,_⟩|hge;·cases hal
   ·have:=(h.own q c hq).lt hv;omega
  refine⟨⟨?_,λq c hq hv=> ?_⟩,λhfr=> ?_⟩
  rotate_left 2
  ·rcases hb1 with ⟨hal,_⟩|hge;·cases hal
   ·exact K.hF _ (Du h.kept.size hge)
  ·rcases hb1 with ⟨hal,_⟩|hge;·cases hal
   ·exact .inl (Du h.kept.size hge)
  ·simp only[EnvF.add,cq]at hq;split at hq
   ·rename_i hc;simp only[bI]at hv;rw[D4 (by omega)]at hv;have hlt2:q-n<(RV.vals res rs).length:=(by omega);simp only[List.getD,D1 hlt2,Ed]at hv;exact hb2 _ (D8 hlt2) hv
   ·rename_i hc;simp only[bI]at hv;rw[D2 (by omega)]at hv;exact hold q c hq hv
 have heach:L2 (RV1 w' (Zf K (V.add n (RV.owns true res)) (bI φ n (RV.vals res rs)) true)) rs res:=by
  refine hret.each.imp λv r hv=> ?_;cases r with
  |val p=>exact Rep.mono hzz hv
  |own e sz rows=>exact ar.mono (Z:=λ_ b=>((false=true/\True)∨w.heap.size<=b)/\∀v,v∈RV.vals res rs->¬VB v b) (Z':=λ_=>Zf K (V.add n (RV.owns true res)) (bI φ n (RV.vals res rs)) true) (c:= .sl e sz true rows) hv (λ_ _=>rfl) λ_=>hzz
 have hrel:=h.add hb n (RV.owns true res) (RV.vals res rs) hn hvl (λi c v hc hv=>by
  obtain⟨c',hc',hr'⟩:=(tM (Z:=Zf K (V.add n (RV.owns true res)) (bI φ n (RV.vals res rs))) heach).getl hv;rw[hc]at hc';obtain rfl:=D3 hc';exact⟨hr',λg hg=>hret.fresh v g (D7 hv) hg⟩) (λi j v v' g hi hj hv hv'=>hret.dis i j v v' g hi hj hv hv')
 obtain⟨h1,h2⟩:=dw (Z:=Zf K (V.add n (RV.owns true res)) (bI φ n (RV.vals res rs))) res rs n (bI φ n (RV.vals res rs)) (U:=em U n (RV.owns true res)) heach hφ (λi hi=> .inr ⟨by omega,by omega⟩);obtain⟨h3,h4⟩:=eM h1 h2;exact hk _ w' _ hrel h3 h4
theorem DoesB.sound (h:RelW K V U φ a w){n g0 q0 q2:Nat}{o:Oper}{sv:SV}{adds:List Own}(hd:DoesB K V n o g0 q0 q2 sv adds)(hn: ∀o,n<=o->o<n+adds.length->¬U o)
  {next:Act->World->Prop} {Q:Exit->Act->World->Prop}
  (hk: ∀v w' φ',RelW K (V.add n adds) (em U n adds) φ' a w'->aU w' (Zf K (V.add n adds) φ') φ' v sv->sv.inU (em U n adds)->next (a.put o.dst v) w'):o.wp K.P a w next Q:=by
 cases hd with
 | @mk y x args tys f fx frb fr res row e sz rows u ho hx0 hax hbx hbo hgs hbq hspec=>
  refine DoesB.run h ho hx0 hspec ?_ hn hk;rw[hax];obtain⟨hrx,_⟩:=ae h hbx;obtain⟨gb,hgb,hv⟩:=hrx;obtain⟨g',t,cur,e2,hh,hr,h1⟩:=h.own q0 _ hbo;rw[e2]at hgb;simp only[ax,D6]at hgb;subst hgb;obtain⟨_,_,eu⟩:=h.slot g0 _ hgs;have eu:φ q2=u:=eu;cases hc:cur.toList with
  |nil=>rw[hc]at hr;cases hr
  |cons v0 vs0=>
   rw[hc]at hr;cases hr with
   |cons hr0 _=>
    have hv0:v0=u:=(by cases hr0;rfl);refine .cons ?_ .nil;rw[hv];refine Rep.ptr g' (0*0+0) [.sl rows] [v0] trivial (DR.1 hh).1 (by simp[PV.one]) (λj v hj=> ?_) (.cons ?_ .nil)
    ·have hj0:j=0:=by
      have:=(D5.1 hj).1;simp at this;omega
     subst hj0;simp at hj;subst hj;refine bY hh ?_;rw[show 0*0+0+0=0 from Y];rw[cell_of_row w g' 0 cur t (0,0) hh];have:cur.toList[0]? =some v0:=(by rw[hc];rfl);simpa using this
    ·rw[hv0,<-eu];exact k9 h hbq
 | @agg y x xs args tys f fx fa fr res row ps e sz rows u ho hx0 hax hbx hps hgs hbq hspec=>
  refine DoesB.run h ho hx0 hspec ?_ hn hk;rw[hax];obtain⟨_,_,eu⟩:=h.slot g0 _ hgs;have eu:φ q2=u:=eu;obtain⟨hrx,_⟩:=ae h hbx;refine .cons ?_ (Rep.monoL (λb _ _=>⟨trivial,rfl⟩) (iJ h xs ps hps));have hrx:Rep w _ (a.eval x) (.agg (.raw u::row)):=hrx;generalize a.eval x=vx at hrx;cases hrx with
  |agg vs _ hl h1=>
   cases hl with
   |cons hr0 hl=>
    rename_i v0 vs0;have hv0:v0=u:=(by cases hr0;rfl);refine .agg _ _ (.cons ?_ (Rep.monoL (λb _ _=>⟨trivial,rfl⟩) hl)) λp hp=> ?_;·rw[hv0,<-eu];exact k9 h hbq
    ·rcases DO.1 hp with rfl|hp;·rfl
     ·exact h1 p (.tail _ hp)
end
def aw (own:Nat->Option Own)(src:Option Nat)(n:Nat)(c:Own)(o:Nat):Option Own:=if o=n then some c else if src=some o then none else own o
section
variable {K:Ctx}{V:EnvF}{U:Nat->Prop}{φ:Nat->Value}{a:Act}{w:World}
def EnvF.pvf (E:EnvF):SV->Option (Bool×PV)
 | .val fr p=>some (fr,p)
 | .nilsl=>some (true,.sl [])
 | .ref o=>match E.own o with
  |some (.sl _ _ fr rows)=>some (fr,.sl rows)
  |_=>none
 |_=>none
theorem src_rows (h:RelW K V U φ a w){y:Operand}{sv:SV}{fr:Bool}{rows:List (List PV)}(hy:V.get y=some sv)(hp:V.pvf sv=some (fr,.sl rows)):
  ((a.eval y= .slice none 0 0∨∃ad cap,a.eval y= .slice (some ad) 0 cap)/\rows=[])∨∃b off cap xs,a.eval y= .slice (some ⟨b,off,none⟩) rows.length cap/\(∀j v,xs[j]? =some v->w.cell? ⟨b,off+j,none⟩=some v)/\
   L2 (Rep w (Zf K V φ fr)) xs rows.flatten/\∀r∈rows,∀p∈r,p.one=true:=by
 obtain⟨hr,_⟩:=ae h hy;generalize a.eval y=v at hr⊢;cases sv with
 |val f p=>
  simp only[EnvF.pvf,D6,Prod.mk.injEq]at hp;obtain⟨rfl,rfl⟩:=hp;cases hr with
  |nilsl=>exact .inl ⟨.inl Y,rfl⟩
  |slE ad cap _=>exact .inl ⟨.inr ⟨ad,cap,rfl⟩,rfl⟩
  |sl b off cap sz rows xs _ _ _ h1 h2 _ _ h3=>exact .inr ⟨b,off,cap,xs,rfl,λj v hj=>(h2 j v hj).1,h3,h1⟩
 |nilsl=>simp only[EnvF.pvf,D6,Prod.mk.injEq,PV.sl.injEq]at hp;exact .inl ⟨.inl hr,hp.2.symm⟩
 |ref o=>
  simp only[EnvF.pvf]at hp;split at hp
  ·rename_i e sz f rows' ho;simp only[D6,Prod.mk.injEq,PV.sl.injEq]at hp;obtain⟨rfl,rfl⟩:=hp;obtain⟨xs,hown,hl,h1,h2⟩:=h.own o _ ho;simp only[aU,ay]at hr;subst hr;have hcell:=λg hg=>hown.cells (g:=g) hg;rcases hown.2 with ⟨hv,hn⟩|⟨g,cap,cur,hv,_⟩;·exact .inl ⟨.inl hv,DP hn⟩
   ·rw[hv]at hcell⊢;refine .inr ⟨g,0,cap,xs,rfl,λj v hj=> ?_,hl,h2⟩;have:=hcell g Y j v hj;rwa[show(⟨g,0,none⟩:Addr).add j=⟨g,0+j,none⟩by rw[bD]]at this
  ·cases hp
 |_=>simp[EnvF.pvf]at hp
theorem jg {rows:List (List PV)}{sz:Nat}(h: ∀r∈rows,r.length=sz):rows.flatten.length=rows.length*sz:=by
 induction rows with
 |nil=>simp
 |cons r rows ih=>rw[EP,DX,h r (.head _),ih (λr hr=>h r (.tail _ hr)),Dp,Fo,FC]
theorem kR {P:Program}{t e:TypeId}{inf:TypeInfo}{base cap len:Nat}{v:Value}{xs:List Value}(hu:P.underlying t=some (.slice e))(hi:P.info? e=some inf)(hown:w.ownsRow base e inf.size v len xs)(ty:TypeId):
  (Builtin.append_ #[t,t] ty #[v,.slice none 0 0]).run P w= .ok v w:=by
 rcases hown.2 with ⟨rfl,rfl⟩|⟨g,cap,cur,rfl,_,_,hnc,_⟩;·simp[Builtin.append_,run_underlying hu,aM hi,Builtin.lenOf,Builtin.firstCells]
 ·simp[Builtin.append_,run_underlying hu,aM hi,Builtin.lenOf,Builtin.firstCells,hnc,storeCells]
theorem nu {P:Program}{t e:TypeId}{inf:TypeInfo}{base cap len:Nat}{v:Value}{xs:List Value}(hu:P.underlying t=some (.slice e))(hi:P.info? e=some inf)(hown:w.ownsRow base e inf.size v len xs)(ty:TypeId)(ad:Addr)(c:Nat):
  (Builtin.append_ #[t,t] ty #[v,.slice (some ad) 0 c]).run P w= .ok v w:=by
 rcases hown.2 with ⟨rfl,rfl⟩|⟨g,cap,cur,rfl,_,_,hnc,_⟩;·simp[Builtin.append_,run_underlying hu,aM hi,Builtin.lenOf,Builtin.firstCells,loadCells,loadCellsFrom]
 ·simp[Builtin.append_,run_underlying hu,aM hi,Builtin.lenOf,Builtin.firstCells,hnc,storeCells,loadCells,loadCellsFrom]
theorem ej (h:RelW K V U φ a w){o:Oper}{args:Array Operand}{tys:Array TypeId}{s y:Operand}{t e:TypeId}{src:Option Nat}{n sz:Nat}{fr fy:Bool}{rows rows2:List (List PV)}{sv:SV}{inf:TypeInfo}{z:Value}
  (ho:o.op= .call { callee:= .builtin .append,args:=args,argTypes:=tys }) (ha:args.toList=[s,y]) (ht:tys.toList=[t,t])
  (hs:(∃q,src=some q/\V.get s=some (.ref q)/\V.own q=some (.sl e sz fr rows))∨(src=none/\V.get s=some .nilsl/\rows=[]/\fr=true))
  (hy:V.get y=some sv) (hp:V.pvf sv=some (fy,.sl rows2))
  (hu:K.P.underlying t=some (.slice e)) (hi:K.P.info? e=some inf) (hsz:inf.size=sz) (hz:inf.zero=some z) (hzs:z.cells.size=sz) (h0:0<sz)
  (hl2: ∀r∈rows2,r.length=sz) (h63:rows.length+rows2.length<=maxLen) (hby:(rows.length+rows2.length)*inf.bytes<=140737488355328)
  (hn: ¬U n) {next:Act->World->Prop} {Q:Exit->Act->World->Prop}
  (hk: ∀v w' φ',RelW K ⟨V.slot,aw V.own src n (.sl e sz (fr&&fy) (rows++rows2))⟩ (λi=>U i∨i=n) φ' a w'->v=φ' n->next (a.put o.dst v) w'):o.wp K.P a w next Q:=by
 have ea:args= #[s,y]:=(by rw[<-EQ (xs:=args),ha]);have et:tys= #[t,t]:=(by rw[<-EQ (xs:=tys),ht]);subst ea et;obtain⟨xs,hown,hlx,hr1,hr2,hsrc⟩: ∃xs,w.ownsRow 0 e sz (a.eval s) rows.length xs/\L2 (Rep w (Zf K V φ fr)) xs rows.flatten/\(∀r∈rows,r.length=sz)/\(∀r∈rows,∀p∈r,p.one=true)/\
   ((∃q c,src=some q/\V.own q=some c/\φ q=a.eval s)∨(src=none/\∀g,¬VB (a.eval s) g)):=by
  rcases hs with ⟨q,rfl,hg,hq⟩|⟨rfl,hg,rfl,rfl⟩
  ·obtain⟨hr,_⟩:=ae h hg;simp only[aU,ay]at hr;obtain⟨xs,hown,hl,h1,h2⟩:=h.own q _ hq;rw[hr];exact⟨xs,hown,hl,h1,h2,.inl ⟨q,_,rfl,hq,rfl⟩⟩
  ·obtain⟨hr,_⟩:=ae h hg;simp only[aU,ay]at hr;rw[hr];exact⟨[],World.ownsRow_nil w 0 e sz,.nil,by simp,by simp,.inr ⟨rfl,by simp[VB,ax]⟩⟩
 obtain⟨v',w',news,hrun,hown',hgr,hat,hln,hone⟩: ∃v' w' news,(Builtin.append_ #[t,t] o.type #[a.eval s,a.eval y]).run K.P w= .ok v' w'/\w'.ownsRow 0 e sz v' (rows.length+rows2.length) (xs++news)/\
   w.grownBy w' (a.eval s).ownBlock/\(v'.ownBlock=(a.eval s).ownBlock∨v'.ownBlock=some w.heap.size)/\L2 (Rep w (Zf K V φ fy)) news rows2.flatten/\∀r∈rows2,∀p∈r,p.one=true:=by
  rcases src_rows h hy hp with ⟨hnil|⟨ad,c,hnil⟩,rfl⟩|⟨b,off,cap,ys,hv,hcell,hly,h1⟩
  ·rw[hnil];refine⟨a.eval s,w,[],kR (cap:=0) hu hi (by rw[hsz];exact hown) _,by simpa using hown,⟨rfl,rfl,rfl,DL _,λ_ _ _=>rfl⟩,.inl Y,.nil,by simp⟩
  ·rw[hnil];refine⟨a.eval s,w,[],nu (cap:=0) hu hi (by rw[hsz];exact hown) _ ad c,by simpa using hown,⟨rfl,rfl,rfl,DL _,λ_ _ _=>rfl⟩,.inl Y,.nil,by simp⟩
  ·have hyl:ys.length=rows2.length*sz:=(by rw[hly.length,jg hl2]);have hone: ∀u∈ys,u.oneCell'=true:=by
    intro u hu;obtain⟨p,hp,hr⟩:=hly.mem hu;obtain⟨r,hr2,hp2⟩:=Ft.1 hp;exact hr.one (h1 r hr2 p hp2)
   obtain⟨v',w',hr,h2,h3,_,h5⟩:=run_append_own_at (P:=K.P) w 0 t o.type e inf z sz inf.bytes hu hi hz hsz Y hzs h0 (a.eval s) rows.length xs hown ⟨b,off,none⟩ rows2.length cap ys hyl
    (λj u hj=>by rw[bD];exact hcell j u hj) hone h63 hby (Dz _)
   rw[hv];exact⟨v',w',ys,hr,h2,h3,h5,hly,h1⟩
 have hrun':(execOp a.eval o).run K.P w= .ok (.value v') w':=by
  simp only[execOp,ho,resolve,invoke,builtin,DK,Dr,DA,GY,DZ,GG,hrun]
 unfold Oper.wp;rw[hrun'];have hvb':=λg=>B7 hown' g;have hvbs:=λg=>B7 hown g;let φ':Nat->Value:=λi=>if i=n then v' else φ i
 have hne: ∀i,U i->i≠n:=λi hu e=>hn (e▸hu);have hlen:(rows++rows2).length=rows.length+rows2.length:=(by simp);have hD: ∀b,b<w.heap.size->¬(VB (a.eval s) b)->w'.heap[b]? =w.heap[b]? :=λb hlt hb=>hgr.block b hlt (λe=>hb (by rw[hvbs];exact e.symm));have hZ: ∀b,Zof K V φ b->b<w.heap.size->Zof K ⟨V.slot,aw V.own src n (.sl e sz (fr&&fy) (rows++rows2))⟩ φ' b/\w'.heap[b]? =w.heap[b]? :=by
  intro b hb hlt;have hnb: ¬(VB (a.eval s) b):=by
   intro e;rcases hsrc with ⟨q,c,rfl,hq,hφ⟩|⟨rfl,hnone⟩;·exact hb.2 q c hq (by rw[hφ];exact e)
   ·exact hnone b e
  refine⟨⟨hb.1,λi c hi hv=> ?_⟩,hD b hlt hnb⟩;simp only[aw]at hi;by_cases hin:i=n
  ·subst hin;simp only[φ',D4]at hv;rw[hvb']at hv;rcases hat with hat|hat;·rw[hat,<-hvbs]at hv;exact hnb hv
   ·rw[hat]at hv;simp at hv;omega
  ·rw[D2 hin]at hi;simp only[φ',D2 hin]at hv;split at hi;·cases hi
   ·exact hb.2 i c hi hv
 have hZf: ∀f b,Zf K V φ f b->b<w.heap.size->Zf K ⟨V.slot,aw V.own src n (.sl e sz (fr&&fy) (rows++rows2))⟩ φ' f b/\w'.heap[b]? =w.heap[b]? :=λf b hb hlt=>⟨⟨(hZ b hb.1 hlt).1,hb.2⟩,(hZ b hb.1 hlt).2⟩;refine hk v' w' φ' (h.step (λb=>VB (a.eval s) b) (λi=>i=n∨src=some i) Y (λ_ hu=> .inl hu) (λi hu=>by simp only[φ',D2 (hne i hu)]) hgr.os hgr.tape hgr.output hgr.size hD ?_ ?_ ?_ ?_) (by simp[φ'])
 ·intro b hlt hb;rcases hsrc with ⟨q,c,rfl,hq,hφ⟩|⟨rfl,hnone⟩;·exact⟨q,c,hq,by rw[hφ];exact hb,.inr Y⟩
  ·exact(hnone b hb).elim
 ·intro i c hi hc;simp only[aw]at hi;rw[D2 (λe=>hc (.inl e)),D2 (λe=>hc (.inr e))]at hi;exact hi
 ·intro i c hi hc;have hin:i=n:=by
   rcases hc with hc|hc;·exact hc
   ·simp only[aw]at hi;by_cases e:i=n;·exact e
    ·rw[D2 e,D4 hc]at hi;cases hi
  subst hin;simp only[aw,D4,D6]at hi;subst hi;refine⟨.inr Y,?_,?_⟩
  ·simp only[φ',D4];refine⟨xs++news,by rw[hlen];exact hown',?_,?_,?_⟩
   ·rw[List.flatten_append];exact((Rep.monoL (hZf fr) hlx).imp λ_ _ hq=>hq.weak (by simp;intro a _;exact a)).append ((Rep.monoL (hZf fy) hln).imp λ_ _ hq=>hq.weak (by simp))
   ·intro r hr;rcases DT.1 hr with hr|hr;·exact hr1 r hr
    ·exact hl2 r hr
   ·intro r hr;rcases DT.1 hr with hr|hr;·exact hr2 r hr
    ·exact hone r hr
  ·intro g hg;simp only[φ',D4]at hg;rw[hvb']at hg;rcases hat with hat|hat
   ·rw[hat,<-hvbs]at hg;rcases hsrc with ⟨q,c,rfl,hq,hφ⟩|⟨rfl,hnone⟩;·exact .inr ⟨q,c,hq,by rw[hφ];exact hg,.inr Y⟩
    ·exact(hnone g hg).elim
   ·rw[hat]at hg;simp at hg;omega
 ·intro i i' c c' g hi hi' hc hc' _ _;have key: ∀i c,aw V.own src n (.sl e sz (fr&&fy) (rows++rows2)) i=some c->(i=n∨src=some i)->i=n:=by
   intro i c hi hc;rcases hc with hc|hc;·exact hc
   ·simp only[aw]at hi;by_cases e:i=n;·exact e
    ·rw[D2 e,D4 hc]at hi;cases hi
  rw[key i c hi hc,key i' c' hi' hc']
def Own.put:Own->Nat->Nat->Nat->Bool->List PV->Option Own
 | .sl e sz fr rows,i,off,st,f,ps=>match Nat.beq sz st,rows[i]? with
  |true,some r=>match Nat.ble (off+ps.length) r.length with
   |true=>some (.sl e sz (fr&&f) (rows.set i (putCells r off ps)))
   |false=>none
  |_,_=>none
 | .box fr row,i,off,st,f,ps=>match i,Nat.ble (off+ps.length) row.length with
  |0,true=>some (.box (fr&&f) (putCells row off ps))
  |_,_=>none
 | .fam ..,_,_,_,_,_=>none
 | .mp ..,_,_,_,_,_=>none
 | .it ..,_,_,_,_,_=>none
 | .sit ..,_,_,_,_,_=>none
theorem iM: ∀(ps cs:List PV) (n:Nat),(putCells cs n ps).length=cs.length
 | [],cs,n=>rfl
 |p::ps,cs,n=>by simp only[putCells];rw[iM ps];simp
theorem iN: ∀(ps cs ds:List PV) (n:Nat),n+ps.length<=cs.length->putCells (cs++ds) n ps=putCells cs n ps++ds
 | [],cs,ds,n,h=>rfl
 |p::ps,cs,ds,n,h=>by
  simp only[Dp]at h;simp only[putCells];rw[List.set_append_left _ _ (by omega),iN ps _ ds (n+1) (by simp;omega)]
theorem eA: ∀(ps cs ds:List PV) (n:Nat),putCells (cs++ds) (cs.length+n) ps=cs++putCells ds n ps
 | [],cs,ds,n=>rfl
 |p::ps,cs,ds,n=>by
  simp only[putCells];rw[G2 _ _ (by omega),ET,En,eA ps cs _ (n+1)]
theorem gM {sz:Nat}: ∀(rows:List (List PV)) (i off:Nat) (r ps:List PV),(∀r∈rows,r.length=sz)->rows[i]? =some r->off+ps.length<=r.length->
  putCells rows.flatten (i*sz+off) ps=(rows.set i (putCells r off ps)).flatten
 | [],i,off,r,ps,_,h,_=>by simp at h
 |r0::rows,0,off,r,ps,hl,h,hle=>by
  simp at h;subst h;simp only[HA,Ew,GO,EP];exact iN ps r0 rows.flatten off hle
 |r0::rows,i+1,off,r,ps,hl,h,hle=>by
  simp at h;simp only[List.set_cons_succ,EP];have h0:=hl r0 (.head _);have e:(i+1)*sz+off=r0.length+(i*sz+off):=(by rw[h0,FM];omega);rw[e,eA,gM rows i off r ps (λr hr=>hl r (.tail _ hr)) h hle]
theorem jR: ∀(xs:List Value) (vs:List Value) (ps cs:List PV) (n:Nat) (R:Value->PV->Prop),L2 R xs cs->L2 R vs ps->n+ps.length<=cs.length->
  L2 R (xs.take n++vs++xs.drop (n+vs.length)) (putCells cs n ps):=by
 intro xs vs ps cs n R hx hv hle;have hvl:=hv.length;have key: ∀(ps cs:List PV) (n:Nat),n+ps.length<=cs.length->putCells cs n ps=cs.take n++ps++cs.drop (n+ps.length):=by
  intro ps
  induction ps with
  |nil=>intro cs n h;simp[putCells]
  |cons p ps ih=>
   intro cs n h;simp only[Dp]at h;simp only[putCells];rw[ih _ _ (by simp;omega)];have h1:(cs.set n p).take (n+1)=cs.take n++[p]:=by
    rw[DB (by simp;omega)];have:(cs.set n p).take n=cs.take n:=by
     apply Ej;intro j;simp only[Ek,EK];by_cases hj:j<n;·simp[hj,show n≠j by omega]
     ·simp[hj]
    simp[this]
   have h2:(cs.set n p).drop (n+1+ps.length)=cs.drop (n+(ps.length+1)):=by
    rw[Gk (by omega)];congr 1;omega
   rw[h1,h2];simp
 rw[key ps cs n hle,hvl];exact((hx.take n).append hv).append (hx.drop _)
theorem to {P:Program}{t:TypeId}{inf:TypeInfo}{g o:Nat}{et:TypeId}{cur:Array Value}{v:Value}(hi:P.info? t=some inf)(hs:v.cells.size=inf.size)(hg:w.heap[g]? =some (.cells cur et (0,0)))
  (hle:o+v.cells.size<=cur.size) (h1: ∀u∈v.cells.toList,u.oneCell'=true):
  (Instr.storeAt t (.pointer (some ⟨g,o,none⟩)) v).run P w= .ok () (w.setRow g (cur.toList.take o++v.cells.toList++cur.toList.drop (o+v.cells.size)).toArray):=by
 have:=run_storeCells_at P g o et v.cells.toList 0 cur w hg (by simpa using hle) h1;simp only[F1,EI]at this;simp only[Instr.storeAt,Instr.sureAddr,DK,Dr,DA,storeVar,aM hi];rw[D2 (by omega)];exact this
theorem mS (h:RelW K V U φ a w){o:Oper}{t:TypeId}{x y:Operand}{q i off st:Nat}{c c':Own}{sv:SV}{fp:Bool}{p:PV}{inf:TypeInfo}
  (ho:o.op= .store t x y) (hx:V.get x=some (.optr q i off st)) (hq:V.own q=some c) (hy:V.get y=some sv) (hp:sv.ff=some (fp,p)) (hi:K.P.info? t=some inf) (hs:p.cells.length=inf.size)
  (hc:c.put i off st fp p.cells=some c') {next:Act->World->Prop} {Q:Exit->Act->World->Prop}
  (hk: ∀w',RelW K ⟨V.slot,λj=>if j=q then some c' else V.own j⟩ U φ a w'->next (a.put o.dst undef) w'):o.wp K.P a w next Q:=by
 obtain⟨hrx,-⟩:=ae h hx;obtain⟨g,hg,hv⟩:=hrx;have hrep:=bC h hy hp;have hrc:=hrep.cells;have hcl:=hrc.length;rw[EI]at hcl;have hone: ∀u∈(a.eval y).cells.toList,u.oneCell'=true:=by
  intro u hu;obtain⟨r,hr,hu2⟩:=hrc.mem hu;exact hu2.one (hrep.cells_one r hr)
 have hown:=h.own q c hq;obtain⟨et,cur,hblk,hfit,hnew⟩: ∃et cur,w.heap[g]? =some (.cells cur et (0,0))/\i*st+off+(a.eval y).cells.size<=cur.size/\
   ∀(w':World) (φ':Nat->Value) (V':EnvF),w'.heap[g]? =some (.cells (cur.toList.take (i*st+off)++(a.eval y).cells.toList++cur.toList.drop (i*st+off+(a.eval y).cells.size)).toArray et (0,0))->
    (∀f b,Zf K V φ f b->b<w.heap.size->Zf K V' φ' f b/\w'.heap[b]? =w.heap[b]?)->ar w' (Zf K V' φ') (φ q) c':=by
  cases c with
  |sl e sz fr rows=>
   obtain⟨xs,hwn,hl,h1,h2⟩:=hown;rw[j8 (g:=g) hwn]at hg;simp only[Own.put]at hc;split at hc
   ·rename_i r hsz hri;split at hc
    ·rename_i hle;obtain rfl:=D3 hc;obtain rfl:=EV hsz;have hle':=Dy hle;have hr0:=h1 r (D7 hri);have hil:i<rows.length:=(D5.1 hri).1;rcases hwn.2 with ⟨hv0,_⟩|⟨g',cap,cur,hv0,hb,hgg,hnc,hcm,hcs,htake⟩;·rw[hv0]at hg;simp[Value.ownBlock]at hg
     ·rw[hv0]at hg;simp[Value.ownBlock]at hg;subst hg;have hpos:i*sz+off+(a.eval y).cells.size<=rows.length*sz:=by
       have:i*sz+sz<=rows.length*sz:=(by rw[<-Fo];exact EA _ hil);omega
      have hcap:rows.length*sz<=cap*sz:=EA _ hnc;refine⟨e,cur,hgg,by omega,λw' φ' V' hw' hz'=> ?_⟩;have hxl:xs.length=rows.length*sz:=hwn.1;refine⟨xs.take (i*sz+off)++(a.eval y).cells.toList++xs.drop (i*sz+off+(a.eval y).cells.toList.length),?_,?_,?_,?_⟩
      ·refine⟨by simp;omega,.inr ⟨g',cap,_,by rw[hv0];simp,hb,hw',by simpa using hnc,hcm,?_,?_⟩⟩;·simp;omega
       ·simp only[E7];rw[<-htake];have hcl2:cur.toList.length=cap*sz:=(by rw[EI,hcs]);apply Ej;intro j;simp only[EI];by_cases hj:j<rows.length*sz
        ·rw[Ek,D4 hj];simp only[List.getElem?_append,DX,Dx,EI,G9];simp only[Ek,Ff];rw[ES (by omega),ES (by omega),ES (by omega)];by_cases h3:j<i*sz+off;·simp only[h3,hj,if_true,show j<i*sz+off+(a.eval y).cells.size by omega]
         ·by_cases h4:j<i*sz+off+(a.eval y).cells.size;·simp[h3,h4]
          ·simp only[h3,h4,if_false];rw[D4 (by omega)]
        ·rw[Ek,D2 hj,EB];simp;omega
      ·rw[<-gM rows i off r p.cells h1 hri hle'];exact jR xs _ _ _ _ _ ((Rep.monoL (hz' fr) hl).imp λ_ _ hq=>hq.weak (by simp;intro a _;exact a)) ((Rep.monoL (hz' fp) hrc).imp λ_ _ hq=>hq.weak (by simp)) (by rw[jg h1];omega)
      ·intro r' hr';rcases DV hr' with h3|h3;·exact h1 r' h3
       ·rw[h3,iM];exact hr0
      ·intro r' hr';rcases DV hr' with h3|h3;·exact h2 r' h3
       ·rw[h3];exact nG _ _ _ (h2 r (D7 hri)) hrep.cells_one
    ·cases hc
   ·cases hc
  |box fr row=>
   obtain⟨g',et,cur,hv0,hgg,hl,h1⟩:=hown;rw[hv0]at hg;simp[VB,ax]at hg;subst hg;simp only[Own.put]at hc;split at hc
   ·rename_i hle;obtain rfl:=D3 hc;have hle':=Dy hle;have hll:=hl.length;rw[EI]at hll;refine⟨et,cur,hgg,by omega,λw' φ' V' hw' hz'=>⟨g',et,_,hv0,hw',?_,nG _ _ _ h1 hrep.cells_one⟩⟩;have:=jR _ _ _ _ off _ ((Rep.monoL (hz' fr) hl).imp λ_ _ hq=>hq.weak (g:=fr&&fp) (by simp;intro a _;exact a)) ((Rep.monoL (hz' fp) hrc).imp λ_ _ hq=>hq.weak (g:=fr&&fp) (by simp)) hle';simpa using this
   ·cases hc
  |fam e sz fr l=>simp[Own.put]at hc
  |mp fr b l=>simp[Own.put]at hc
  |it m since seen last=>simp[Own.put]at hc
  |sit s pos=>simp[Own.put]at hc
 have hrun:=to (P:=K.P) (v:=a.eval y) hi (by omega) hblk hfit hone;have hrun':(execOp a.eval o).run K.P w= .ok .skip (w.setRow g (cur.toList.take (i*st+off)++(a.eval y).cells.toList++cur.toList.drop (i*st+off+(a.eval y).cells.size)).toArray):=by
  simp only[execOp,ho,hv,DK,hrun,DA];rfl
 unfold Oper.wp;rw[hrun'];refine hk _ (h.step (λb=>b=g) (λj=>j=q) Y (λ_ hu=>hu) (λ_ _=>rfl) Y Y Y (by simp) (λb _ hb=>setRow_other w g b _ hb) ?_ ?_ ?_ ?_)
 ·rintro b _ rfl;exact⟨q,c,hq,.inl hg,rfl⟩
 ·intro j c1 hj hne;simpa[hne]using hj
 ·intro j c1 hj hje;subst hje;simp only[D4,D6]at hj;subst hj;refine⟨h.inU j c hq,hnew _ _ _ (setRow_heap w g cur _ et (0,0) hblk) ?_,λg' hg'=> .inr ⟨j,c,hq,hg',rfl⟩⟩;intro f b hb hlt;refine⟨⟨⟨hb.1.1,λk c2 hk hv2=> ?_⟩,hb.2⟩,setRow_other w g b _ λe=> ?_⟩
  ·by_cases e:k=j;·subst e;exact hb.1.2 k c hq hv2
   ·simp only[D2 e]at hk;exact hb.1.2 k c2 hk hv2
  ·subst e;exact hb.1.2 j c hq (.inl hg)
 ·rintro j j' _ _ _ _ _ rfl rfl _ _;rfl
end
def wants (ops:Array Oper)(E:EnvF)(o:Oper):Option Bool:=
 match o.guard with
 |none=>some true
 |some (j,want)=>match ops[j]? with
  |some oj=>match oj.dst with
   |some d=>match E.slot d with
    |some (.val _ (.bool b))=>some (b==want)
    |some (.tup _)=>some false
    |_=>none
   |none=>none
  |none=>none
theorem AI {ts:Array Value}{s:Nat}{v:Value}(h:ts.getD s undef=v)(hne: ∀l,v≠.tuple l):ts[s]? =some v:=by
 rw[E5]at h;cases hs:ts[s]? with
 |none=>rw[hs]at h;exact DU h.symm (hne _)
 |some u=>rw[hs]at h;exact congrArg some h
theorem aE {K:Ctx}{E:EnvF}{U:Nat->Prop}{φ:Nat->Value}{a:Act}{w:World}(h:RelW K E U φ a w){ops:Array Oper}{o:Oper}{b:Bool}(hw:wants ops E o=some b):Region.wanted o (yielded ops a.tmps)=b:=by
 unfold wants at hw;unfold Region.wanted;split at hw
 ·rename_i hg;obtain rfl:=D3 hw;rw[hg]
 ·rename_i j want hg;split at hw
  ·rename_i oj hj;split at hw
   ·rename_i d hd;split at hw
    ·rename_i f b' hs;obtain rfl:=D3 hw;obtain⟨v,hv,hr⟩:=h.slot d _ hs;cases hr;have hv:=AI hv (λl=>by simp);rw[hg];simp only[yielded,hj,Fu,hd,hv];cases b'<;>cases want<;>rfl
    ·rename_i l hs;obtain rfl:=D3 hw;obtain⟨v,hv,hr⟩:=h.slot d _ hs;obtain⟨vs,hv2,_⟩:=hr;obtain rfl:v= .tuple vs.toArray:=hv2;rw[hg];rw[E5]at hv;cases hs2:a.tmps[d]? with
     |none=>simp[yielded,hj,hd,hs2]
     |some u=>rw[hs2]at hv;simp at hv;simp[yielded,hj,hd,hs2,hv]
    ·cases hw
   ·cases hw
  ·cases hw
structure TO (K:Ctx)(ops:Array Oper)(l:List Oper)(E:St)(R:St->Prop):Prop where
 out: ∀(a:Act) (w:World) (Q:Exit->Act->World->Prop),Rel K E a w->(∀E' a' w',R E'->Rel K E' a' w'->Q .normal a' w')->wpList K.P ops Q l a w
def x4 (K:Ctx)(o:Oper)(E E':St):Prop:=
 ∀(a:Act) (w:World) (next:Act->World->Prop) (Q:Exit->Act->World->Prop),Rel K E a w->(∀a' w',Rel K E' a' w'->next a' w')->o.wp K.P a w next Q
def cw (n:Nat):List Own->List (Nat×Option Own)->List (Nat×Option Own)
 | [],ow=>ow
 |c::cs,ow=>(n,some c)::cw (n+1) cs ow
theorem r5 (ow:List (Nat×Option Own)): ∀(adds:List Own) (n o:Nat),(lk (cw n adds ow) o).join=cq (λo=>(lk ow o).join) n adds o
 | [],n,o=>by simp only[cw,cq,Ee,F1];rw[D2 (by omega)]
 |c::cs,n,o=>by
  simp only[cw,ai];by_cases e:n=o
  ·subst e;simp[cq]
  ·rw[D2 e,r5 ow cs (n+1) o];simp only[cq,Dp];by_cases h:n+1<=o/\o<n+1+cs.length
   ·rw[D4 h,D4 (by omega)];obtain⟨k,rfl⟩: ∃k,o=n+1+k:=⟨o-(n+1),by omega⟩;have e1:n+1+k-(n+1)=k:=(by omega);have e2:n+1+k-n=k+1:=(by omega);rw[e1,e2,El]
   ·rw[D2 h,D2 (by omega)]
theorem sg (sl:List (Nat×SV))(ow:List (Nat×Option Own))(nx m:Nat)(adds:List Own):(St.mk sl (cw nx adds ow) m).f=(St.mk sl ow nx).f.add nx adds:=by
 simp only[St.f,EnvF.add,EnvF.mk.injEq,true_and];funext o;exact r5 ow adds nx o
theorem slot_put {sl:List (Nat×SV)}{d:Nat}{sv:SV}(s:Nat)(sv':SV)(h:lk ((d,sv)::sl) s=some sv'):(s=d/\sv'=sv)∨(s≠d/\lk sl s=some sv'):=by
 rw[ai]at h;by_cases e:d=s;·rw[D4 e]at h;exact .inl ⟨e.symm,(D3 h).symm⟩
 ·rw[D2 e]at h;exact .inr ⟨Ne.symm e,h⟩
section
variable {K:Ctx}{ops:Array Oper}{o:Oper}{rest:List Oper}{sl:List (Nat×SV)}{ow:List (Nat×Option Own)}{nx:Nat}{R:St->Prop}{E E':St}{d:Nat}{sv:SV}
theorem TO.nil (h:R E):TO K ops [] E R:=⟨λ_ _ _ hr hk=>hk E _ _ h hr⟩
theorem TO.step (hg:wants ops E.f o=some true)(hs:x4 K o E E')(k:TO K ops rest E' R):TO K ops (o::rest) E R:=
 ⟨λa w Q hr hk=>by
  obtain⟨φ,hφ⟩:=hr;unfold wpList;rw[D4 (aE hφ hg)];exact .inl (hs a w _ Q ⟨φ,hφ⟩ λa' w' hr'=>k.out a' w' Q hr' hk)⟩
theorem TO.skip (hg:wants ops (St.mk sl ow nx).f o=some false)(hd:o.dst=some d)(hlt:K.can d=true)(k:TO K ops rest ⟨(d,.tup [])::sl,ow,nx⟩ R):TO K ops (o::rest) ⟨sl,ow,nx⟩ R:=
 ⟨λa w Q hr hk=>by
  obtain⟨φ,hφ⟩:=hr;unfold wpList;rw[D2 (by rw[aE hφ hg];simp)];refine k.out _ w Q ⟨φ,?_⟩ hk;rw[hd];exact hφ.put hlt (sv:= .tup []) ⟨[],rfl,.nil⟩ (by intro s hs;cases hs) rfl slot_put⟩
theorem TO.sub (h: ∀a w,Rel K E a w->Rel K E' a w)(k:TO K ops rest E' R):TO K ops rest E R:=⟨λa w Q hr hk=>k.out a w Q (h a w hr) hk⟩
theorem dS {adds:List Own}(hd:o.dst=some d)(hlt:K.can d=true)(h:Does K (St.mk sl ow nx).f nx o sv adds):x4 K o ⟨sl,ow,nx⟩ ⟨(d,sv)::sl,cw nx adds ow,nx+adds.length⟩:=by
 intro a w next Q hr hk
 obtain⟨φ,hφ⟩:=hr;refine h.sound hφ (λi h1 _ h3=>DU h3 (HH.2 h1)) (next:=next) (Q:=Q) λv w' φ' h1 h2 h3=>hk _ _ ⟨φ',?_⟩;have hU:em (· <nx) nx adds=(· <nx+adds.length):=by
  funext i;simp only[em,eq_iff_iff];omega
 rw[hU]at h1 h3;rw[hd];have hf:=sg sl ow nx (nx+adds.length) adds;have h4:RelW K (St.mk sl (cw nx adds ow) (nx+adds.length)).f (· <nx+adds.length) φ' a w':=(by rw[hf];exact h1);rw[<-hf]at h2;exact h4.put hlt h2 h3 Y slot_put
theorem TO.e (hg:wants ops (St.mk sl ow nx).f o=some true)(hd:o.dst=some d)(hlt:K.can d=true)(he:ev K.P (St.mk sl ow nx).f o=some sv)(k:TO K ops rest ⟨(d,sv)::sl,ow,nx⟩ R):TO K ops (o::rest) ⟨sl,ow,nx⟩ R:=
 .step hg (dS hd hlt (.ev he)) k
theorem TO.does {adds:List Own}(hg:wants ops (St.mk sl ow nx).f o=some true)(hd:o.dst=some d)(hlt:K.can d=true)(h:Does K (St.mk sl ow nx).f nx o sv adds)(k:TO K ops rest ⟨(d,sv)::sl,cw nx adds ow,nx+adds.length⟩ R):TO K ops (o::rest) ⟨sl,ow,nx⟩ R:=
 .step hg (dS hd hlt h) k
theorem TO.g {p:Prop}[Decidable p]{j dj:Nat}{want f:Bool}(hg:o.guard=some (j,want))(hj:(ops[j]?).bind (·.dst)=some dj)(hs:lk sl dj=some (.val f (.bool (decide p))))
  (kt:p->TO K ops (o::rest) ⟨(dj,.val true (.bool true))::sl,ow,nx⟩ R) (kf: ¬p->TO K ops (o::rest) ⟨(dj,.val true (.bool false))::sl,ow,nx⟩ R):TO K ops (o::rest) ⟨sl,ow,nx⟩ R:=by
 have key: ∀b,decide p=b->∀a w,Rel K ⟨sl,ow,nx⟩ a w->Rel K ⟨(dj,.val true (.bool b))::sl,ow,nx⟩ a w:=by
  rintro b hb a w ⟨φ,hφ⟩;refine⟨φ,hφ.df,hφ.sz,hφ.old,hφ.kept,hφ.own,hφ.mine,hφ.inU,hφ.dis,?_,?_⟩
  ·intro s sv' hsv;rcases slot_put s sv' hsv with ⟨rfl,rfl⟩|⟨_,h⟩
   ·obtain⟨v,hv,hr⟩:=hφ.slot s _ hs;refine⟨v,hv,?_⟩;cases hr;rw[hb];exact Rep.bool b
   ·exact hφ.slot s sv' h
  ·intro s sv' hsv;rcases slot_put s sv' hsv with ⟨rfl,rfl⟩|⟨_,h⟩;·trivial
   ·exact hφ.sin s sv' h
 by_cases hp:p;·exact .sub (key true (DD hp)) (kt hp)
 ·exact .sub (key false (DC hp)) (kf hp)
theorem TO.gb {b:Bool}{j dj:Nat}{want f:Bool}(hg:o.guard=some (j,want))(hj:(ops[j]?).bind (·.dst)=some dj)(hs:lk sl dj=some (.val f (.bool b)))
  (kt:b=true->TO K ops (o::rest) ⟨(dj,.val true (.bool true))::sl,ow,nx⟩ R) (kf:b=false->TO K ops (o::rest) ⟨(dj,.val true (.bool false))::sl,ow,nx⟩ R):TO K ops (o::rest) ⟨sl,ow,nx⟩ R:=
 TO.g (p:=b=true) hg hj (by rw[hs];cases b<;>rfl) kt (λh=>kf (by cases b<;>simp_all))
theorem TO.i {t:TypeId}{x i:Operand}{sx:SV}{fr fi:Bool}{rows:List (List PV)}{r:List PV}{k:IntKind}{m:Int}{e:TypeId}{inf:TypeInfo}(ho:o.op= .indexAddr t x i)(hg:wants ops (St.mk sl ow nx).f o=some true)(hd:o.dst=some d)(hlt:K.can d=true)
  (hx:(St.mk sl ow nx).f.get x=some sx) (hr:sx.ff=some (fr,.sl rows)) (hi:(St.mk sl ow nx).f.get i=some (.val fi (.int k m))) (hu:K.P.underlying t=some (.slice e)) (hinf:K.P.info? e=some inf)
  (h0:0<=m) (hrow:rows[m.toNat]? =some r) (hl:r.length=inf.size) (q:TO K ops rest ⟨(d,.fptr fr r)::sl,ow,nx⟩ R):TO K ops (o::rest) ⟨sl,ow,nx⟩ R:=
 .step hg (dS hd hlt (.idxf ho hx hr hi hu hinf h0 hrow hl)) q
theorem TO.io {t:TypeId}{x i:Operand}{p:Nat}{fr fi:Bool}{rows:List (List PV)}{k:IntKind}{m:Int}{e' e:TypeId}{sz:Nat}{inf:TypeInfo}(ho:o.op= .indexAddr t x i)(hg:wants ops (St.mk sl ow nx).f o=some true)(hd:o.dst=some d)(hlt:K.can d=true)
  (hx:(St.mk sl ow nx).f.get x=some (.ref p)) (hp:(St.mk sl ow nx).f.own p=some (.sl e' sz fr rows)) (hi:(St.mk sl ow nx).f.get i=some (.val fi (.int k m))) (hu:K.P.underlying t=some (.slice e)) (hinf:K.P.info? e=some inf)
  (h0:0<=m) (hm:m.toNat<rows.length) (hl:inf.size=sz) (q:TO K ops rest ⟨(d,.optr p m.toNat 0 sz)::sl,ow,nx⟩ R):TO K ops (o::rest) ⟨sl,ow,nx⟩ R:=
 .step hg (dS hd hlt (.idxo ho hx hp hi hu hinf h0 hm hl)) q
theorem TO.bx {t:TypeId}{x:Operand}{sx:SV}{fr:Bool}{p:PV}(ho:o.op= .box t x)(hg:wants ops (St.mk sl ow nx).f o=some true)(hd:o.dst=some d)(hlt:K.can d=true)(hx:(St.mk sl ow nx).f.get x=some sx)(hp:sx.ff=some (fr,p))
  (q:TO K ops rest ⟨(d,.optr nx 0 0 0)::sl,(nx,some (.box fr p.cells))::ow,nx+1⟩ R):TO K ops (o::rest) ⟨sl,ow,nx⟩ R:=
 .step hg (dS hd hlt (.box ho hx hp)) q
theorem TO.bv {t e:TypeId}{len:Nat}{fr:Bool}{parts:Array (Nat×Operand)}{rows:List (List PV)}{inf:TypeInfo}{z:Value}(ho:o.op= .buildSlice t len parts)(hg:wants ops (St.mk sl ow nx).f o=some true)(hd:o.dst=some d)(hlt:K.can d=true)
  (hu:K.P.underlying t=some (.slice e)) (hinf:K.P.info? e=some inf) (hz:inf.zero=some z) (hzs:z.cells.size=inf.size) (hr:c5 (St.mk sl ow nx).f inf.size 0 parts.toList=some (fr,rows)) (hl:rows.length=len) (hm:len*inf.size<=2 ^ 24) (hm2:len<=2 ^ 24)
  (q:TO K ops rest ⟨(d,.val fr (.sl rows))::sl,ow,nx⟩ R):TO K ops (o::rest) ⟨sl,ow,nx⟩ R:=
 .step hg (dS hd hlt (.bsv ho hu hinf hz hzs hr hl hm hm2)) q
theorem TO.bo {t e:TypeId}{len:Nat}{fr:Bool}{parts:Array (Nat×Operand)}{rows:List (List PV)}{inf:TypeInfo}{z:Value}(ho:o.op= .buildSlice t len parts)(hg:wants ops (St.mk sl ow nx).f o=some true)(hd:o.dst=some d)(hlt:K.can d=true)
  (hu:K.P.underlying t=some (.slice e)) (hinf:K.P.info? e=some inf) (hz:inf.zero=some z) (hzs:z.cells.size=inf.size) (hr:c5 (St.mk sl ow nx).f inf.size 0 parts.toList=some (fr,rows)) (hl:rows.length=len) (hm:len*inf.size<=2 ^ 24) (hm2:len<=2 ^ 24)
  (q:TO K ops rest ⟨(d,.ref nx)::sl,(nx,some (.sl e inf.size fr rows))::ow,nx+1⟩ R):TO K ops (o::rest) ⟨sl,ow,nx⟩ R:=
 .step hg (dS hd hlt (.bso ho hu hinf hz hzs hr hl hm hm2)) q
theorem TO.c {x:Operand}{args:Array Operand}{tys:Array TypeId}{f:FuncId}{first caps ps:List PV}{al fx:Bool}{res:List RV}(ho:o.op= .call { callee:= .value x,args:=args,argTypes:=tys })(hg:wants ops (St.mk sl ow nx).f o=some true)(hd:o.dst=some d)(hlt:K.can d=true)
  (hx:(St.mk sl ow nx).f.get x=some (.val fx (.fn (.func f) first caps))) (hspec:Spec K.P f al (first++ps++caps) res) (ha:bW (St.mk sl ow nx).f al args.toList=some ps)
  (q:TO K ops rest ⟨(d,RV.one (!al) nx res)::sl,cw nx (RV.owns (!al) res) ow,nx+(RV.owns (!al) res).length⟩ R):TO K ops (o::rest) ⟨sl,ow,nx⟩ R:=
 .step hg (dS hd hlt (.call ho hx ha hspec)) q
theorem zG (src:Option Nat)(c:Own)(hs: ∀q,src=some q->q<nx):
  (St.mk sl ((nx,some c)::(match src with|some q=>(q,none)::ow|none=>ow)) (nx+1)).f=⟨(St.mk sl ow nx).f.slot,aw (St.mk sl ow nx).f.own src nx c⟩:=by
 simp only[St.f,EnvF.mk.injEq,true_and];funext i;simp only[aw,ai];by_cases e:nx=i;·rw[D4 e,D4 e.symm];rfl
 ·rw[D2 e,D2 (Ne.symm e)];cases src with
  |none=>simp
  |some q=>
   simp only[ai,D6];by_cases e2:q=i;·rw[D4 e2,D4 e2];rfl
   ·rw[D2 e2,D2 e2]
theorem TO.a {args:Array Operand}{tys:Array TypeId}{s y:Operand}{t e:TypeId}{q sz:Nat}{fr fy:Bool}{rows rows2:List (List PV)}{sy:SV}{inf:TypeInfo}{z:Value}
  (ho:o.op= .call { callee:= .builtin .append,args:=args,argTypes:=tys }) (ha:args.toList=[s,y]) (ht:tys.toList=[t,t]) (hg:wants ops (St.mk sl ow nx).f o=some true) (hd:o.dst=some d) (hlt:K.can d=true)
  (hs:(St.mk sl ow nx).f.get s=some (.ref q)) (hq:(St.mk sl ow nx).f.own q=some (.sl e sz fr rows)) (hy:(St.mk sl ow nx).f.get y=some sy) (hp:(St.mk sl ow nx).f.pvf sy=some (fy,.sl rows2))
  (hu:K.P.underlying t=some (.slice e)) (hi:K.P.info? e=some inf) (hsz:inf.size=sz) (hz:inf.zero=some z) (hzs:z.cells.size=sz) (h0:0<sz)
  (hl2: ∀r∈rows2,r.length=sz) (hby:(rows.length+rows2.length)*inf.bytes<=140737488355328) (hb1:1<=inf.bytes)
  (k:TO K ops rest ⟨(d,.ref nx)::sl,(nx,some (.sl e sz (fr&&fy) (rows++rows2)))::(q,none)::ow,nx+1⟩ R):TO K ops (o::rest) ⟨sl,ow,nx⟩ R:=by
 refine .step hg ?_ k;intro a w next Q hr hk
 obtain⟨φ,hφ⟩:=hr;have hqn:q<nx:=hφ.inU q _ hq;have h63:rows.length+rows2.length<=maxLen:=Du (Du (GR _ hb1) hby) (by decide);refine ej hφ (n:=nx) (src:=some q) (z:=z) ho ha ht (.inl ⟨q,rfl,hs,hq⟩) hy hp hu hi hsz hz hzs h0 hl2 h63 hby (λh=>DU h (H3 _)) (next:=next) (Q:=Q) λv w' φ' h1 h2=>hk _ _ ⟨φ',?_⟩;have hU:(λi=>i<nx∨i=nx)=(· <nx+1):=(by funext i;simp only[eq_iff_iff];omega);rw[hU,<-zG (some q) _ (λq' e=>by cases e;exact hqn)]at h1;rw[hd];exact h1.put hlt (sv:= .ref nx) h2 (Eh _) Y slot_put
theorem TO.an {args:Array Operand}{tys:Array TypeId}{s y:Operand}{t e:TypeId}{fy:Bool}{rows2:List (List PV)}{sy:SV}{inf:TypeInfo}{z:Value}
  (ho:o.op= .call { callee:= .builtin .append,args:=args,argTypes:=tys }) (ha:args.toList=[s,y]) (ht:tys.toList=[t,t]) (hg:wants ops (St.mk sl ow nx).f o=some true) (hd:o.dst=some d) (hlt:K.can d=true)
  (hs:(St.mk sl ow nx).f.get s=some .nilsl) (hy:(St.mk sl ow nx).f.get y=some sy) (hp:(St.mk sl ow nx).f.pvf sy=some (fy,.sl rows2))
  (hu:K.P.underlying t=some (.slice e)) (hi:K.P.info? e=some inf) (hz:inf.zero=some z) (hzs:z.cells.size=inf.size) (h0:0<inf.size)
  (hl2: ∀r∈rows2,r.length=inf.size) (hby:rows2.length*inf.bytes<=140737488355328) (hb1:1<=inf.bytes)
  (k:TO K ops rest ⟨(d,.ref nx)::sl,(nx,some (.sl e inf.size fy rows2))::ow,nx+1⟩ R):TO K ops (o::rest) ⟨sl,ow,nx⟩ R:=by
 refine .step hg ?_ k;intro a w next Q hr hk
 obtain⟨φ,hφ⟩:=hr;have h63:([]:List (List PV)).length+rows2.length<=maxLen:=by
  have:=Du (Du (GR rows2.length hb1) hby) (show 140737488355328<=maxLen by decide);simpa using this
 refine ej hφ (n:=nx) (src:=none) (fr:=true) (rows:=[]) (z:=z) ho ha ht (.inr ⟨rfl,hs,rfl,rfl⟩) hy hp hu hi Y hz hzs h0 hl2 h63 (by simpa using hby) (λh=>DU h (H3 _)) (next:=next) (Q:=Q) λv w' φ' h1 h2=>hk _ _ ⟨φ',?_⟩;have hU:(λi=>i<nx∨i=nx)=(· <nx+1):=(by funext i;simp only[eq_iff_iff];omega);rw[hU,<-zG none _ (λq' e=>by cases e)]at h1;rw[hd];exact h1.put hlt (sv:= .ref nx) h2 (Eh _) Y slot_put
theorem TO.w {t:TypeId}{x y:Operand}{q i off st:Nat}{c c':Own}{sy:SV}{fp:Bool}{p:PV}{inf:TypeInfo}
  (ho:o.op= .store t x y) (hg:wants ops (St.mk sl ow nx).f o=some true) (hd:o.dst=none) (hx:(St.mk sl ow nx).f.get x=some (.optr q i off st)) (hq:(St.mk sl ow nx).f.own q=some c) (hy:(St.mk sl ow nx).f.get y=some sy) (hp:sy.ff=some (fp,p))
  (hi:K.P.info? t=some inf) (hs:p.cells.length=inf.size) (hc:c.put i off st fp p.cells=some c') (k:TO K ops rest ⟨sl,(q,some c')::ow,nx⟩ R):TO K ops (o::rest) ⟨sl,ow,nx⟩ R:=by
 refine .step hg ?_ k;intro a w next Q hr hk
 obtain⟨φ,hφ⟩:=hr;refine mS hφ ho hx hq hy hp hi hs hc (next:=next) (Q:=Q) λw' h1=> ?_;rw[hd];refine hk _ _ ⟨φ,?_⟩;have:(St.mk sl ((q,some c')::ow) nx).f=⟨(St.mk sl ow nx).f.slot,λj=>if j=q then some c' else(St.mk sl ow nx).f.own j⟩:=by
  simp only[St.f,EnvF.mk.injEq,true_and];funext j;rw[ai];by_cases e:q=j;·rw[D4 e,D4 e.symm];rfl
  ·rw[D2 e,D2 (Ne.symm e)]
 rw[this];exact h1
end
end Go.Proofs.YtopcjbahjjhdmaaGreat
