/- Contracts of functions of the program, and what they lean on. Conditions: those of each theorem. -/
import Derived.Test.YthkdpdpgmhmgoaaGreatSpUC
import Derived.Test.YthkdpdpgmhmgoaaGreatSpUD
import Derived.Shelf.Small.Bits
import Derived.Shelf.Small.Wraps
import Derived.Shelf.Strconv.Itoa0
import Derived.Shelf.Sort.Plain
import Derived.Ground.Names2Prog
import Derived.Shelf.Slices.Clone
import Derived.Shelf.Slices.CompactI
import Derived.Shelf.Slices.SearchI
import Derived.Shelf.Slices.Delete
import Derived.Shelf.Slices.Cells
import Derived.Shelf.Slices.In.SortNone
import Derived.Shelf.Slices.Empties
import Derived.Ground.SlgnProg
import Derived.Shelf.SlicesE.Clone
import Derived.Test.YthkdpdpgmhmgoaaGreatProg
import Derived.Shelf.SlSortCmp.NoneTotal
import Derived.Ground.SlsfProg

set_option linter.unusedVariables false
set_option linter.unusedSimpArgs false
set_option maxHeartbeats 64000000
set_option maxRecDepth 100000
open And renaming intro->c2O
open Array renaming eq_empty_of_size_eq_zero->b8T,getD_eq_getD_getElem?->a4E,getElem?_eq_getElem->a2S,getElem?_modify->a1Q,size_mapIdx->c4H
open Bool renaming and_eq_true->a4C,or_eq_true->b6L,not_eq_true->c1h,eq_iff_iff->b3S,not_eq_true'->b9O
open Classical renaming propDecidable->b7p,byContradiction->a9M
open Function renaming comp_def->b8q
open Int renaming sub_self->c8Z,toNat_natCast->c2z
open List renaming foldl_append->a3U,length_map->a6S,length_filter_le->b9b,filter_append->b3o,length_append->a7J,map_append->a6M,filter_cons->a0V,filter_nil->d8B,append_nil->b2y,mem_of_getElem?->a8y,getElem?_eq_some_iff->a7y,take_of_length_le->a2B,length_pos_iff->a6I,filter_eq_nil_iff->b0T,mem_filter->a0F,length_take->a7S,mem_append->a1E,mem_singleton->a2z,mem_append_left->a6O,take_length->a7I,getElem?_of_mem->a9B,reverse_reverse->d4h,reverse_cons->d9p,cons_append->c6h,mem_cons_self->a8C,mem_cons_of_mem->a2C,mem_cons->a2E,getElem?_append_left->a1N,take_append_of_le_length->c0Q,take_left->d4P,perm_ext_iff_of_nodup->c1S,pairwise_cons->b6P,foldl_cons->b0k,length_cons->a3O,getElem?_cons_succ->a2I,find?_eq_none->b4w,mem_reverse->d4v,mem_of_find?_eq_some->a8V,find?_some->d1C,take_add_one->a1J,length_mergeSort->d1b,take->a7U,Nodup->d5p,pairwise_iff_getElem->c8x,getElem?_eq_getElem->a3I,getElem?_take_of_lt->b9p,mem_map->a3E,take_sublist->d1r,pairwise_map->c8H,range->a0I,getElem?_zip_eq_some->c1T,getElem?_tail->c7J,getElem?_map->a0C,getElem?_cons_zero->a9E,getD_eq_getElem?_getD->b4P,map_map->b6S,mem_flatMap->a2N,nil_append->c9n,drop->c3R,eq_nil_of_length_eq_zero->a8R,size_toArray->b8S,not_mem_nil->b8w,mergeSort_perm->c7j,pairwise_mergeSort->c1V,all_eq_true->a0E,nodup_append->b5m,flatMap_cons->a6V,length_range->c9J,drop_sublist->d0s,map_take->c5V,map_drop->d1Q,filter_cons_of_pos->c7B,filter_cons_of_neg->b2R,flatMap_append->c4F,foldl_nil->b1T
open List.Pairwise renaming nil->c9B
open List.Perm renaming eq_of_pairwise->d7T
open List.cons renaming injEq->a4S
open Nat renaming add_zero->b1P,lt_or_ge->a6U,lt_trichotomy->c0y,pos_iff_ne_zero->d2p,le_refl->a8F,zero_le->c4u,not_lt_zero->d5P,mul_comm->c5w,mul_le_mul_right->a5E,add_mul->a8M,one_mul->d5S,lt_of_le_of_lt->c7L
open Option renaming map_some->a4G,getD_some->a2L,isSome_iff_exists->c7w
open Option.some renaming injEq->a5y,inj->c0i

section
namespace Go.Rt
open Go.Vm
abbrev BR:Sk:=(false,[.i .i64],false)
abbrev iX:Sk:=(true,[.i .i64, .i .i64, .b, .i .i64, .s],false)
def Xz(es:List Ev)(txn:Int):Int:=es.foldl (fun s e=>if e.txn=txn/\(e.kind=1\/e.kind=5\/e.kind=6)then e.kind else s) 0
theorem e5h(es:List Ev)(e:Ev)(txn:Int):Xz (es++[e]) txn=if e.txn=txn/\(e.kind=1\/e.kind=5\/e.kind=6)then e.kind else Xz es txn:=by
 unfold Xz;rw[a3U];rfl
def gS(es:List Ev):List Value->Option (List IV)
 | [.int .i64 txn]=>if Xz es txn=0 then none else some [ci (Xz es txn)]
 | _=>none
def gW(es:List Ev):List Value->Option (List IV)
 | [.int .i64 txn, .int .i64 table, .bool t, .int .i64 n, .string s]=>if Yo es txn table ⟨t,n,s⟩=0 then none else some [ci (Yo es txn table ⟨t,n,s⟩)]
 | _=>none
def GU(o:Int×Vl):List IV:=[ci o.1,cb o.2.text,ci o.2.n, .v (.string o.2.s)]
def Zv(es:List Ev)(txn:Int):List (Int×Vl):=(es.filter fun e=>decide (e.kind=3)&&decide (e.txn=txn)&&decide (e.n=1)).map fun e=>(e.table,e.key)
def gP(es:List Ev):List Value->Option (List (List IV))
 | [.int .i64 txn]=>if Zv es txn=[]then none else some ((Zv es txn).map GU)
 | _=>none
def vD(es:List Ev)(k:List Value):Option (List IV):=(gP es k).map fun xs=>[IV.Z6 4 xs]
@[simp]theorem g1o(es:List Ev)(txn:Int):N9 [.iv (.v (.int .i64 0))] false false (gS es [Value.int .i64 txn])=vi (Xz es txn):=by
 simp only[gS]
 by_cases h:Xz es txn=0
 ·rw[if_pos h,h];rfl
 ·rw[if_neg h];rfl
@[simp]theorem g2o(es:List Ev)(txn table:Int)(t:Bool)(n:Int)(s:ByteArray):
 N9 [.iv (.v (.int .i64 0))] false false (gW es [Value.int .i64 txn,Value.int .i64 table,Value.bool t,Value.int .i64 n,Value.string s])=vi (Yo es txn table ⟨t,n,s⟩):=by
 simp only[gW]
 by_cases h:Yo es txn table ⟨t,n,s⟩=0
 ·rw[if_pos h,h];rfl
 ·rw[if_neg h];rfl
def Lj(l:List Rf)(k:Vl):Option Vs:=l.foldl (fun s r=>if r.key=k then some r.ZX else s) none
theorem e7h(l:List Rf)(r:Rf)(k:Vl):Lj (l++[r]) k=if r.key=k then some r.ZX else Lj l k:=by
 unfold Lj;rw[a3U];rfl
abbrev skO:Sk:=(true,[.i .i64, .b, .i .i64, .s],true)
def gR(tab:Int)(l:List Rf):List Value->Option (List IV)
 | [.int .i64 table, .bool t, .int .i64 n, .string s]=>if table=tab then(Lj l ⟨t,n,s⟩).map Vs.cells else none
 | _=>none
@[simp]theorem g3o(tab:Int)(l:List Rf)(t:Bool)(n:Int)(s:ByteArray):
 N9 [.iv (.v (.int .i64 0)), .iv (.v (.int .i64 0))] true false (gR tab l [Value.int .i64 tab,Value.bool t,Value.int .i64 n,Value.string s])= .agg [vi ((Lj l ⟨t,n,s⟩).getD ⟨0,0⟩).txn,vi ((Lj l ⟨t,n,s⟩).getD ⟨0,0⟩).n]:=by
 simp only[gR,if_pos trivial]
 cases Lj l ⟨t,n,s⟩<;>rfl
theorem e8h(tab:Int):gR tab []=fun _=>none:=by
 funext q;unfold gR;split
 ·split<;>rfl
 ·rfl
theorem e9h(tab:Int)(l:List Rf)(r:Rf):ZG (gR tab l) [.int .i64 tab, .bool r.key.text, .int .i64 r.key.n, .string r.key.s] (some [ci r.ZX.txn,ci r.ZX.n])=gR tab (l++[r]):=by
 funext q
 simp only[ZG];split
 ·rename_i e;subst e;simp[gR,e7h]
 ·rename_i ZS;unfold gR;split
  ·rename_i table t n s
   by_cases h1:table=tab
   ·subst h1;rw[if_pos rfl,if_pos rfl,e7h,if_neg];rintro h2;exact ZS (by rw[h2])
   ·rw[if_neg h1,if_neg h1]
  ·rfl
theorem e0i(es:List Ev)(txn:Int):(Zv es txn).length<=es.length:=by
 unfold Zv;rw[a6S];exact b9b _ _
theorem e1i{es:List Ev}{txn:Int}(h:Zv es txn=[]):vD es [.int .i64 txn]=none:=by simp[vD,gP,h]
theorem e2i{es:List Ev}{txn:Int}(h:Zv es txn≠[]):vD es [.int .i64 txn]=some [.Z6 4 ((Zv es txn).map GU)]:=by simp[vD,gP,h]
def YN(h:Hs)(a es:List Ev):IV:= .pt [.Z6 1 (Zd h.tables), .Z6 22 (Zi h.events), .Z6 5 (Zh h.order), .mp BR (gS a), .mp iX (gW es), .mp BR (vD es)]
abbrev f6t(h:Hs):Ob:= .box [.iv (.Z6 1 (Zd h.tables)), .iv (.Z6 22 (Zi h.events)), .iv (.Z6 5 (Zh h.order)), .mpr 1001, .mpr 1002, .mpr 1003]
abbrev ckH(h:Hs)(a b c:List Ev):Hp:=[(1000,f6t h),(1001, .map BR (gS a)),(1002, .map iX (gW b)),(1003, .YJ BR 4 (gP c) none)]
theorem e3i{es:List Ev}{e:Ev}(hk:e.kind=1\/e.kind=5\/e.kind=6):ZG (gS es) [.int .i64 e.txn] (some [ci e.kind])=gS (es++[e]):=by
 funext q
 simp only[ZG];split
 ·rename_i h;subst h
  have hs:Xz (es++[e]) e.txn=e.kind:=by rw[e5h,if_pos ⟨rfl,hk⟩]
  simp only[gS,hs];rw[if_neg (by omega)]
 ·rename_i ZS;unfold gS;split
  ·rename_i t
   have hs:Xz (es++[e]) t=Xz es t:=by
    rw[e5h,if_neg];rintro⟨rfl,_⟩;exact ZS rfl
   rw[hs]
  ·rfl
theorem e4i{es:List Ev}{e:Ev}(hk:¬(e.kind=1\/e.kind=5\/e.kind=6)):gS (es++[e])=gS es:=by
 funext q
 unfold gS;split
 ·rename_i t
  have hs:Xz (es++[e]) t=Xz es t:=by rw[e5h,if_neg fun g=>hk g.2]
  rw[hs]
 ·rfl
theorem e5i(es:List Ev)(e:Ev)(txn table:Int)(k:Vl):Yo (es++[e]) txn table k=Yo es txn table k+if e.Qt txn table k=true then 1 else 0:=by
 unfold Yo;rw[b3o,a7J]
 congr 1
 cases hw:e.Qt txn table k<;>simp[hw]
theorem e6i{es:List Ev}{e:Ev}(hk:e.kind=3):ZG (gW es) [.int .i64 e.txn, .int .i64 e.table, .bool e.key.text, .int .i64 e.key.n, .string e.key.s] (some [ci ((Yo es e.txn e.table e.key:Int)+1)])=gW (es++[e]):=by
 funext q
 simp only[ZG];split
 ·rename_i h;subst h
  have hw:Yo (es++[e]) e.txn e.table ⟨e.key.text,e.key.n,e.key.s⟩=Yo es e.txn e.table e.key+1:=by
   rw[e5i,if_pos (Ev.Yw.2 ⟨hk,rfl,rfl,rfl,rfl,rfl⟩)]
  simp only[gW,hw];rw[if_neg (by omega)];simp
 ·rename_i ZS;unfold gW;split
  ·rename_i txn table t n s
   have hw:Yo (es++[e]) txn table ⟨t,n,s⟩=Yo es txn table ⟨t,n,s⟩:=by
    rw[e5i,if_neg,b1P];rw[Ev.Yw];rintro⟨_,rfl,rfl,h1,h2,h3⟩;simp only at h1 h2 h3;subst h1 h2 h3;exact ZS rfl
   rw[hw]
  ·rfl
theorem e7i{es:List Ev}{e:Ev}(hk:e.kind≠3):gW (es++[e])=gW es:=by
 funext q
 unfold gW;split
 ·rw[e5i,if_neg (fun g=>hk (Ev.Yw.1 g).1),b1P]
 ·rfl
theorem e8i(es:List Ev)(e:Ev)(txn:Int):Zv (es++[e]) txn=Zv es txn++(if e.kind=3/\e.txn=txn/\e.n=1 then[(e.table,e.key)]else[]):=by
 unfold Zv;rw[b3o,a6M]
 congr 1
 simp only[a0V,d8B,a4C,decide_eq_true_eq,and_assoc]
 split<;>simp
theorem e9i{es:List Ev}{e:Ev}(hk:e.kind=3)(hn:e.n=1):ZG (gP es) [.int .i64 e.txn] (some ((Zv es e.txn).map GU++[GU (e.table,e.key)]))=gP (es++[e]):=by
 funext q
 simp only[ZG];split
 ·rename_i h;subst h
  have hs:Zv (es++[e]) e.txn=Zv es e.txn++[(e.table,e.key)]:=by rw[e8i,if_pos ⟨hk,rfl,hn⟩]
  simp only[gP,hs];rw[if_neg (by simp)];simp
 ·rename_i ZS;unfold gP;split
  ·rename_i t
   have hs:Zv (es++[e]) t=Zv es t:=by
    rw[e8i,if_neg,b2y];rintro⟨_,rfl,_⟩;exact ZS rfl
   rw[hs]
  ·rfl
theorem e0j{es:List Ev}{e:Ev}(hk:¬(e.kind=3/\e.n=1)):gP (es++[e])=gP es:=by
 funext q
 unfold gP;split
 ·rename_i t
  have hs:Zv (es++[e]) t=Zv es t:=by rw[e8i,if_neg (fun g=>hk ⟨g.1,g.2.2⟩),b2y]
  rw[hs]
 ·rfl
theorem e1j{es:List Ev}{txn:Int}(h:Zv es txn=[]):gP es [.int .i64 txn]=none:=by simp[gP,h]
theorem e2j{es:List Ev}{txn:Int}(h:Zv es txn≠[]):gP es [.int .i64 txn]=some ((Zv es txn).map GU):=by simp[gP,h]
@[simp]theorem e3j{β:Type}(g:List Value->Option β)(k:List Value)(a b:Option β):ZG (ZG g k a) k b=ZG g k b:=by
 funext q;simp only[ZG];split<;>rfl
theorem b8t{h:Hs}(ht:h.WS)(a es:List Ev)(table:Int)(k:Vl):ZU prog true QB [.iv (YN h a es),vi table,k.av] [] (vb (Yp (SE h table k))) []:=by
 refine YD pF (by simp) (by decide) rfl ?_;simp-dsimp[Lx,YN];refine⟨fun h1=>⟨fun h2=>?_,fun h2=>?_⟩,fun h1 g=>absurd g.1 (by omega)⟩
 ·obtain⟨n,rfl⟩:=Int.eq_ofNat_of_zero_le h1;obtain⟨t,VW⟩:∃t,h.tables[n]? =some t:=Zw (by omega);have hT:=ht t (a8y VW);obtain⟨c,hc⟩:∃c,t[0]? =some c:=Zw hT.1
  have hK:SE h n k↔k.right=true/\k.text=c:=by
   unfold SE;constructor
   ·rintro⟨_,t',h3,h4,h5⟩;rw[show((n:Int)).toNat=n from rfl,VW]at h3;cases h3;rw[hc]at h5;cases h5;exact⟨h4,rfl⟩
   ·rintro⟨h4,h5⟩;exact⟨h1,t,by simpa using VW,h4,by rw[hc,h5]⟩
  refine Zu (e8b k) (by simp) (by simp) ?_;simp-dsimp;refine⟨fun h3=>?_,fun h3 g=>by rw[hK]at g;rw[h3]at g;cases g.1⟩
  simp-dsimp[VW,hc,Wr,Tz,hK,h3]
 ·rintro⟨_,t,h3,_⟩;have:=(a7y.1 h3).1;omega
theorem b9t(h:Hs)(a es:List Ev)(table:Int)(k:Vl)(v:Vs):
 ZU prog true LM [.iv (YN h a es), .agg [.iv (ci table), .iv (cb k.text), .iv (ci k.n), .iv (.v (.string k.s))],v.av] [] (vb (Yp (LA es table k v))) []:=by
 refine YD pE (by simp) (by decide) rfl ?_;simp-dsimp[S5,YN,Tz,LA]
 grind
theorem b8O{h:Hs}(ht:h.WS)(a es:List Ev)(e:Ev):ZU prog true HO [.iv (YN h a es),e.av] [] (vb (Yp (e.kind=2->JD h es e))) []:=by
 refine YD oU (by simp) (by decide) rfl ?_
 by_cases k2:e.kind=2
 ·by_cases hw:0<Yo es e.txn e.table e.key
  ·simp-dsimp[TX,YN,Ev.av,k2,hw];refine Zu (b8t ht a es e.table e.key) (by simp[YN]) (by simp[YN]) ?_;simp-dsimp;refine⟨fun g=>?_,fun g g2=>g g2.1⟩;rw[Tz];unfold JD;rw[if_pos hw];simp[g,Vs.eq_iff]
  ·have hR:JD h es e↔SE h e.table e.key/\((e.ZX.txn=0/\e.ZX.n=0)\/LA es e.table e.key e.ZX):=by
    unfold JD;rw[if_neg hw];simp[Vs.eq_iff]
   simp-dsimp[TX,YN,Ev.av,k2,hw];refine Zu (b8t ht a es e.table e.key) (by simp[YN]) (by simp[YN]) ?_;simp-dsimp;refine⟨fun g=>⟨fun g2=>?_,fun g2 g3=>hR.2 ⟨g, .inl ⟨g2,g3⟩⟩⟩,fun g g2=>g g2.1⟩;refine Zu (b9t h a es e.table e.key e.ZX) (by simp[YN]) (by simp[YN]) ?_;simp-dsimp[d8P,hR]
   grind
 ·simp-dsimp[TX,YN,Ev.av,k2]
def EP(h:Hs)(es:List Ev)(e:Ev):Prop:=(0<=e.table/\∃t,h.tables[e.table.toNat]? =some t/\P6 t e.pred)/\ZH e.refs.length (Np h es e)∧
 ∀o,o∈Zv es e.txn->o.1=e.table->(Lj e.refs o.2).getD ⟨0,0⟩=⟨e.txn,Yo es e.txn o.1 o.2⟩
theorem b0P{h:Hs}(ht:h.WS)(Rl:h.tables.length<2^63)(a es:List Ev)(Fc:es.length<2^63)(e:Ev)(XR:e.Ok):ZU prog true HN [.iv (YN h a es),e.av] [] (vb (Yp (e.kind=4->EP h es e))) []:=by
 refine YD oT (by simp) (by decide) rfl ?_
 by_cases k4:e.kind=4
 ·by_cases hT:0<=e.table/\e.table<h.tables.length
  ·obtain⟨t0,t1⟩:=id hT;obtain⟨t,OO⟩:∃t,h.tables[e.table.toNat]? =some t:=Zw (by omega)
   have t2:¬(h.tables.length:Int)<=e.table:=by omega
   have t3:¬e.table<0:=by omega
   simp-dsimp[TW,YN,Ev.av,k4,t0,t3,t2,OO];refine Zu (b9R t XR.pred) (by simp[YS,Pd.av]) (by simp[YS,Pd.av]) ?_;simp-dsimp
   have hS:EP h es e↔P6 t e.pred/\ZH e.refs.length (Np h es e)/\∀o,o∈Zv es e.txn->o.1=e.table->(Lj e.refs o.2).getD ⟨0,0⟩=⟨e.txn,Yo es e.txn o.1 o.2⟩:=by
    unfold EP;constructor
    ·rintro⟨⟨_,t',g1,g2⟩,g3⟩;rw[OO]at g1;cases g1;exact⟨g2,g3⟩
    ·rintro⟨g2,g3⟩;exact⟨⟨t0,t,OO,g2⟩,g3⟩
   refine⟨fun h2 g=>h2 (hS.1 g).1,fun h2=>?_⟩
   refine YZ [] [7,8] e.refs.length (fun i=>⟨[(47,vi i),(46,vi e.refs.length),(45, .iv (.Z6 5 (Nn e.refs))),(0, .iv (YN h a es)),(3, .ptr 3 0),(5, .mpr 43)],
    [(43, .map skO (gR e.table (e.refs.take i))),(3, .box (e.cells.map .iv))]⟩) (fun i=>ZH i (Np h es e)) ?_ ?_ ?_
   ·simp-dsimp[e8h,YN]
   ·simp
   ·intro i hi hq;simp-dsimp[Li,YN];refine⟨fun ZV=>?_,fun X3=>?_⟩
    ·obtain⟨q,Wa⟩:=Zw ZV;have hre:=XR.refs;have hw:=Zo (n:=(i:Int)+1) (by omega);have UY:=Zo (n:=(i:Int)-1) (by omega)
     have Y6:¬Np h es e i->¬EP h es e:=fun g1 g=>g1 (g.2.1 i ZV)
     have VE:Np h es e i↔SE h e.table q.key/\LA es e.table q.key q.ZX/\(∀p,0<i->e.refs[i-1]? =some p->p.key.cmp q.key<0):=by
      unfold Np;rw[Wa];exact⟨fun g=>g q rfl,fun g r hr=>by cases hr;exact g⟩
     simp-dsimp[Wa,Rf.Z8 q];refine Zu (b8t ht a es e.table q.key) (by simp[YN]) (by simp[YN]) ?_;simp-dsimp
     by_cases k1:SE h e.table q.key
     ·simp-dsimp[k1];refine Zu (b9t h a es e.table q.key q.ZX) (by simp[YN]) (by simp[YN]) ?_;simp-dsimp
      by_cases k2:LA es e.table q.key q.ZX
      ·by_cases GV:0<i
       ·obtain⟨p,hp⟩:∃p,e.refs[i-1]? =some p:=Zw (by omega)
        have e1:((i:Int)-1).toNat=i-1:=by omega
        have e2:(0:Int)<=(i:Int)-1:=by omega
        simp-dsimp[k2,GV,UY,e1,e2,hp,Rf.Z8 p];refine⟨⟨by omega,Zu (b3u p.key q.key) (by simp) (by simp) ?_⟩,fun g=>absurd g (by omega)⟩;simp-dsimp[hw,e9h,N5 Wa];refine⟨fun k3=>Y6 fun g=>absurd ((VE.1 g).2.2 p GV hp) (by omega),fun k3=>⟨ZV,hq.succ (VE.2 ⟨k1,k2,fun p' _ Fj=>by rw[hp]at Fj;cases Fj;exact k3⟩)⟩⟩
       ·simp-dsimp[k2,GV,hw,e9h,N5 Wa]
        exact fun _=>⟨ZV,hq.succ (VE.2 ⟨k1,k2,fun p h=>absurd h GV⟩)⟩
      ·simp-dsimp[k2]
       exact Y6 fun g=>k2 (VE.1 g).2.1
     ·simp-dsimp[k1]
      exact Y6 fun g=>k1 (VE.1 g).1
    ·have Zt:ZH e.refs.length (Np h es e):=fun j hj=>hq j (by omega)
     rw[a2B X3]
     by_cases hs:Zv es e.txn=[]
     ·simp-dsimp[e1i hs]
      refine YZ [] [] 0 (fun i=>⟨[(102,vi i),(101,vi 0),(100, .nil 4),(0, .iv (YN h a es)),(3, .ptr 3 0),(5, .mpr 43)],
       [(43, .map skO (gR e.table e.refs)),(3, .box (e.cells.map .iv))]⟩) (fun _=>True) ?_ trivial ?_
      ·simp-dsimp[YN]
      ·intro j hj _
       obtain rfl:j=0:=by omega
       simp-dsimp[P5];exact hS.2 ⟨h2,Zt,by rw[hs];simp⟩
     ·simp-dsimp[e2i hs]
      refine YZ [] [10] (Zv es e.txn).length (fun i=>⟨[(102,vi i),(101,vi (Zv es e.txn).length),(100, .iv (.Z6 4 ((Zv es e.txn).map GU))),(0, .iv (YN h a es)),(3, .ptr 3 0),(5, .mpr 43)],
       [(43, .map skO (gR e.table e.refs)),(3, .box (e.cells.map .iv))]⟩) (fun i=>∀o,o∈(Zv es e.txn).take i->o.1=e.table->(Lj e.refs o.2).getD ⟨0,0⟩=⟨e.txn,Yo es e.txn o.1 o.2⟩) ?_ ?_ ?_
      ·simp-dsimp[YN]
      ·simp
      ·intro j hj JC;have hsl:=e0i es e.txn;simp-dsimp[P5,YN];refine⟨fun Xk=>?_,fun P4=>?_⟩
       ·obtain⟨o,ho⟩:=Zw Xk;have Nl:=Zo (n:=(j:Int)+1) (by omega)
        by_cases c:o.1=e.table
        ·simp-dsimp[ho,GU,c,Nl,N5 ho];constructor
         ·intro g g2;have g3:=(hS.1 g2).2.2 o (a8y ho) c;rw[c]at g3;rw[g3]at g;simp at g
         ·intro g1 g2;refine⟨Xk,?_⟩;rintro a' b (g|rfl) rfl
          ·exact JC _ g rfl
          ·exact Vs.eq_iff.2 ⟨g1,g2⟩
        ·simp-dsimp[ho,GU,c,Nl,N5 ho];refine⟨Xk,?_⟩;rintro a' b (g|rfl) rfl
         ·exact JC _ g rfl
         ·exact absurd rfl c
       ·rw[a2B P4]at JC;exact hS.2 ⟨h2,Zt,JC⟩
  ·have Y6:¬EP h es e:=by
    rintro⟨⟨g0,t,g,_⟩,_⟩;have:=(a7y.1 g).1;omega
   by_cases t0:0<=e.table
   ·have t1:¬e.table<h.tables.length:=fun g=>hT ⟨t0,g⟩
    simp-dsimp[TW,YN,Ev.av,k4,t0,t1,Y6]
   ·simp-dsimp[TW,YN,Ev.av,k4,t0,Y6]
 ·simp-dsimp[TW,YN,Ev.av,k4]
def Ij(es:List Ev)(e:Ev):Prop:=1<=e.txn/\1<=e.kind/\e.kind<=6/\(e.kind=1->Xz es e.txn=0/\1<=e.level/\e.level<=5)/\(e.kind≠1->Xz es e.txn=1)
instance (es:List Ev) (e:Ev):Decidable (Ij es e):=by unfold Ij;exact inferInstance
def Fe(es:List Ev)(e:Ev):List Ev:=if Ij es e then es++[e]else es
theorem a2Q(h:Hs)(es b c:List Ev)(e:Ev):ZU prog false Ii [.ptr 1000 0,e.av] (ckH h es b c) (vb (Yp (Ij es e))) (ckH h (Fe es e) b c):=by
 refine a3L p9 (by simp) (by decide) rfl rfl ?_
 by_cases hF:Ij es e
 ·have hE:Fe es e=es++[e]:=if_pos hF;rw[hE];obtain⟨h1,h2,h3,h4,h5⟩:=id hF
  have n1:¬e.txn<1:=by omega
  have n2:¬e.kind<1:=by omega
  have n3:¬6<e.kind:=by omega
  by_cases k1:e.kind=1
  ·obtain⟨g1,g2,g3⟩:=h4 k1
   have n4:¬e.level<1:=by omega
   have n5:¬5<e.level:=by omega
   have hg:=e3i (es:=es) (e:=e) (.inl k1);rw[k1]at hg;simp-dsimp[WV,Ev.av,n1,n2,n3,k1,g1,n4,n5,hg,hF]
  ·have g1:=h5 k1
   by_cases k5:e.kind=5
   ·have hg:=e3i (es:=es) (e:=e) (.inr (.inl k5));rw[k5]at hg;simp-dsimp[WV,Ev.av,n1,n2,n3,k1,g1,k5,hg,hF]
   ·by_cases k6:e.kind=6
    ·have hg:=e3i (es:=es) (e:=e) (.inr (.inr k6));rw[k6]at hg;simp-dsimp[WV,Ev.av,n1,n2,n3,k1,g1,k6,hg,hF]
    ·have hg:=e4i (es:=es) (e:=e) (by omega);simp-dsimp[WV,Ev.av,n1,n2,n3,k1,g1,k5,k6,hg,hF]
 ·have hE:Fe es e=es:=if_neg hF;rw[hE];simp-dsimp[WV,Ev.av,hF];unfold Ij at hF
  grind
def CkW(h:Hs)(es:List Ev)(e:Ev):Prop:=e.kind=3->SE h e.table e.key/\e.n=Yo es e.txn e.table e.key+1
noncomputable def sa(h:Hs)(es:List Ev)(e:Ev):List Ev:= @ite _ (CkW h es e) (b7p _) (es++[e]) es
theorem a3Q{h:Hs}(ht:h.WS)(a es:List Ev)(Fc:es.length<2^40)(e:Ev):ZU prog false Ih [.ptr 1000 0,e.av] (ckH h a es es) (vb (Yp (e.kind=3->Ig h es e))) (ckH h a (sa h es e) (sa h es e)):=by
 refine a3L p8 (by simp) (by decide) rfl rfl ?_
 by_cases k3:e.kind=3
 ·simp-dsimp[TA,Ev.av,k3];refine Zu (b8t ht a es e.table e.key) (by simp[YN];rfl) (by simp[YN]) ?_
  by_cases hK:SE h e.table e.key
  ·have O7:=d7P es e.txn e.table e.key;have hw:=Zo (n:=(Yo es e.txn e.table e.key:Int)+1) (by omega)
   by_cases hn:e.n=Yo es e.txn e.table e.key+1
   ·have hE:sa h es e=es++[e]:=if_pos fun g=>⟨hK,hn⟩
    rw[hE];obtain⟨h0,t,OO,hr,hc⟩:=id hK;have Fb:=e6i (es:=es) (e:=e) k3
    have JR:Ig h es e↔e.row=[]\/(Fits t e.row/\e.row[0]? =some e.key):=by
     unfold Ig;constructor
     ·rintro⟨_,_,g|⟨t',g2,g3,g4⟩⟩
      ·exact .inl g
      ·rw[OO]at g2;cases g2;exact .inr ⟨g3,g4⟩
     ·rintro(g|⟨g3,g4⟩)
      ·exact⟨hK,hn, .inl g⟩
      ·exact⟨hK,hn, .inr ⟨t,OO,g3,g4⟩⟩
    have UY:IntKind.i64.wrap 1=1:=by rw[IntKind.wrap_i64];omega
    by_cases h1:Yo es e.txn e.table e.key=0
    ·have Mx:e.n=1:=by omega
     rw[h1]at Fb;have Ie:=e9i (es:=es) (e:=e) k3 Mx
     by_cases hs:Zv es e.txn=[]
     ·rw[hs]at Ie
      by_cases Zf:e.row=[]
      ·simp-dsimp[hK,UY,Mx,h1,e1j hs,Zf,JR];exact⟨Fb,Ie⟩
      ·obtain⟨v,hv⟩:∃v,e.row[0]? =some v:=Zw (a6I.2 Zf);simp-dsimp[hK,UY,Mx,h1,e1j hs,Zf,h0,OO]
       repeat' apply c2O
       all_goals try omega
       all_goals
        refine Zu (e8c t e.row) (by simp[YS,r9,YM]) (by simp[YS]) ?_
        by_cases hf:Fits t e.row
        ·simp-dsimp[hf,hv,JR,Zf,Tz,Vl.eq_iff];exact⟨Fb,Ie⟩
        ·simp-dsimp[hf,JR,Zf];exact⟨Fb,Ie⟩
     ·have hsl:=e0i es e.txn
      by_cases Zf:e.row=[]
      ·simp-dsimp[hK,UY,Mx,h1,e2j hs,Zf,JR];exact⟨by omega,by omega,Fb,Ie⟩
      ·obtain⟨v,hv⟩:∃v,e.row[0]? =some v:=Zw (a6I.2 Zf);simp-dsimp[hK,UY,Mx,h1,e2j hs,Zf,h0,OO]
       repeat' apply c2O
       all_goals try omega
       all_goals
        refine Zu (e8c t e.row) (by simp[YS,r9,YM]) (by simp[YS]) ?_
        by_cases hf:Fits t e.row
        ·simp-dsimp[hf,hv,JR,Zf,Tz,Vl.eq_iff];exact⟨Fb,Ie⟩
        ·simp-dsimp[hf,JR,Zf];exact⟨Fb,Ie⟩
    ·have Ie:=e0j (es:=es) (e:=e) (by omega)
     have Mx:¬((Yo es e.txn e.table e.key:Int)+1=1):=by omega
     by_cases Zf:e.row=[]
     ·simp-dsimp[hK,hw,hn,Mx,Zf,JR];exact⟨Fb,Ie.symm⟩
     ·obtain⟨v,hv⟩:∃v,e.row[0]? =some v:=Zw (a6I.2 Zf);simp-dsimp[hK,hw,hn,Mx,Zf,h0,OO]
      repeat' apply c2O
      all_goals
       refine Zu (e8c t e.row) (by simp[YS,r9,YM]) (by simp[YS]) ?_
       by_cases hf:Fits t e.row
       ·simp-dsimp[hf,hv,JR,Zf,Tz,Vl.eq_iff];exact⟨Fb,Ie.symm⟩
       ·simp-dsimp[hf,JR,Zf];exact⟨Fb,Ie.symm⟩
   ·have hE:sa h es e=es:=if_neg fun g=>hn (g k3).2
    rw[hE];simp-dsimp[hK,hw,hn]
    exact fun g=>hn g.2.1
  ·have hE:sa h es e=es:=if_neg fun g=>hK (g k3).1
   rw[hE];simp-dsimp[hK]
   exact fun g=>hK g.1
 ·have hE:sa h es e=es++[e]:=if_pos fun g=>absurd g k3
  rw[hE];simp-dsimp[TA,Ev.av,k3,e7i k3,e0j (fun g=>k3 g.1)]
end Go.Rt
end

section
namespace Go.Rt
open Go.Vm
open Classical in
noncomputable def Sj(p:Int->Int×Vl->Prop):List Value->Option (List IV)
 | [.int .i64 txn, .int .i64 table, .bool t, .int .i64 n, .string s]=>if p txn (table,⟨t,n,s⟩)then some [ci 1]else none
 | _=>none
theorem c3O:Sj (fun _ _=>False)=fun _=>none:=by
 funext q;unfold Sj;split
 ·rw[if_neg];exact fun h=>h
 ·rfl
theorem c4O{p p':Int->Int×Vl->Prop}(h:∀t o,p t o↔p' t o):Sj p=Sj p':=by
 have:p=p':=by funext t o;exact propext (h t o)
 rw[this]
theorem c5O(p:Int->Int×Vl->Prop)(txn:Int)(o:Int×Vl):ZG (Sj p) [.int .i64 txn, .int .i64 o.1, .bool o.2.text, .int .i64 o.2.n, .string o.2.s] (some [ci 1])=Sj (fun t x=>p t x\/(t=txn/\x=o)):=by
 funext q
 simp only[ZG];split
 ·rename_i h;subst h;simp only[Sj];rw[if_pos];exact .inr ⟨rfl,rfl⟩
 ·rename_i ZS;unfold Sj;split
  ·rename_i t table b n s
   have hn:¬(t=txn/\(table,(⟨b,n,s⟩:Vl))=o):=by rintro⟨rfl,rfl⟩;exact ZS rfl
   by_cases hp:p t (table,⟨b,n,s⟩)
   ·rw[if_pos hp,if_pos (.inl hp)]
   ·rw[if_neg hp,if_neg fun g=>g.elim hp hn]
  ·rfl
theorem c6O(p:Int->Int×Vl->Prop)(txn:Int)(o:Int×Vl):ZG (Sj p) [.int .i64 txn, .int .i64 o.1, .bool o.2.text, .int .i64 o.2.n, .string o.2.s] none=Sj (fun t x=>p t x/\¬(t=txn/\x=o)):=by
 funext q
 simp only[ZG];split
 ·rename_i h;subst h;simp only[Sj];rw[if_neg]
  exact fun g=>g.2 ⟨rfl,rfl⟩
 ·rename_i ZS;unfold Sj;split
  ·rename_i t table b n s
   have hn:¬(t=txn/\(table,(⟨b,n,s⟩:Vl))=o):=by rintro⟨rfl,rfl⟩;exact ZS rfl
   by_cases hp:p t (table,⟨b,n,s⟩)
   ·rw[if_pos hp,if_pos ⟨hp,hn⟩]
   ·rw[if_neg hp,if_neg fun g=>hp g.1]
  ·rfl
open Classical in
theorem c7O(p:Int->Int×Vl->Prop)(txn table:Int)(t:Bool)(n:Int)(s:ByteArray):
 N9 [.iv (.v (.int .i64 0))] false false (Sj p [Value.int .i64 txn,Value.int .i64 table,Value.bool t,Value.int .i64 n,Value.string s])=vi (if p txn (table,⟨t,n,s⟩)then 1 else 0):=by
 simp only[Sj]
 split<;>rfl
theorem c8O{p:Int->Int×Vl->Prop}:(∀k,Sj p k=none)↔∀t o,¬p t o:=by
 constructor
 ·intro h t o hp;have:=h [.int .i64 t, .int .i64 o.1, .bool o.2.text, .int .i64 o.2.n, .string o.2.s];simp only[Sj]at this;rw[if_pos hp]at this;cases this
 ·intro h k;unfold Sj;split
  ·rw[if_neg (h _ _)]
  ·rfl
def Wf(l:List Ins)(table:Int)(k:Vl):Nat:=(l.filter fun o=>decide (o.table=table)&&decide (o.key=k)).length
theorem c9O(l:List Ins)(o:Ins)(table:Int)(k:Vl):Wf (l++[o]) table k=Wf l table k+if o.table=table/\o.key=k then 1 else 0:=by
 unfold Wf;rw[b3o,a7J]
 congr 1
 simp only[a0V,d8B,a4C,decide_eq_true_eq]
 split<;>rfl
theorem c0P{l:List Ins}{table:Int}{k:Vl}:Wf l table k=0↔∀x,x∈l->¬(x.table=table/\x.key=k):=by
 unfold Wf;rw[List.length_eq_zero_iff,b0T];simp
theorem c1P(l:List Ins)(table:Int)(k:Vl):Wf l table k<=l.length:=b9b _ _
abbrev skM:Sk:=(true,[.i .i64, .b, .i .i64, .s],false)
def Ve(l:List Ins):List Value->Option (List IV)
 | [.int .i64 table, .bool t, .int .i64 n, .string s]=>if Wf l table ⟨t,n,s⟩=0 then none else some [ci (Wf l table ⟨t,n,s⟩)]
 | _=>none
theorem c2P:Ve []=fun _=>none:=by
 funext q;unfold Ve;split
 ·rfl
 ·rfl
@[simp]theorem f3v(l:List Ins)(table:Int)(t:Bool)(n:Int)(s:ByteArray):
 N9 [.iv (.v (.int .i64 0))] false false (Ve l [Value.int .i64 table,Value.bool t,Value.int .i64 n,Value.string s])=vi (Wf l table ⟨t,n,s⟩):=by
 simp only[Ve]
 by_cases h:Wf l table ⟨t,n,s⟩=0
 ·rw[if_pos h,h];rfl
 ·rw[if_neg h];rfl
theorem c3P(l:List Ins)(o:Ins):ZG (Ve l) [.int .i64 o.table, .bool o.key.text, .int .i64 o.key.n, .string o.key.s] (some [ci ((Wf l o.table o.key:Int)+1)])=Ve (l++[o]):=by
 funext q
 simp only[ZG];split
 ·rename_i h;subst h
  have hw:Wf (l++[o]) o.table ⟨o.key.text,o.key.n,o.key.s⟩=Wf l o.table o.key+1:=by
   rw[c9O,if_pos ⟨rfl,rfl⟩]
  simp only[Ve,hw];rw[if_neg (by omega)];simp
 ·rename_i ZS;unfold Ve;split
  ·rename_i table t n s
   have hw:Wf (l++[o]) table ⟨t,n,s⟩=Wf l table ⟨t,n,s⟩:=by
    rw[c9O,if_neg,b1P];rintro⟨rfl,h⟩;rw[h]at ZS;exact ZS rfl
   rw[hw]
  ·rfl
theorem c4P{es:List Ev}{k:List Value}{c:List IV}(h:vD es k=some c):∃txn,k=[.int .i64 txn]/\Zv es txn≠[]/\c=[.Z6 4 ((Zv es txn).map GU)]:=by
 unfold vD gP at h;split at h
 ·rename_i txn;split at h
  ·cases h
  ·rename_i ZS;simp only[a4G,a5y]at h;exact⟨txn,rfl,ZS,h.symm⟩
 ·cases h
@[simp]theorem c5P{s:St}{fr:Bool}{ids:List Nat}:s.arg1 fr ids∘AV.iv=AV.iv:=funext fun _=>by simp
theorem c6P{k q:List Value}{l:List (List Value)}:q∈O6 k l↔q∈l/\q≠k:=by
 unfold O6;rw[a0F];simp
theorem c7P{k:List Value}{l:List (List Value)}(h:k∈l):(O6 k l).length<l.length:=by
 unfold O6;refine List.length_filter_lt_length_iff_exists.2 ⟨k,h,?_⟩;simp
@[simp]theorem f4v{β:Type}(g:List Value->Option β)(k:List Value)(c:Option β):ZG g k c k=c:=by simp[ZG]
theorem c8P{P:Program}{c:Z9}{s:St}{O:YC}(D D':List Nat)(S:List (List Value)->Option (List Value)->St)(Q:List (List Value)->Prop)(L:List (List Value))(h0:LeTo D s (S L none))(q0:Q L)
 (hs:∀left last,Q left->X5 P c (S left last) {O with n:=fun s2=>∃k Kf,k∈left/\LeTo D' s2 (S (O6 k left) Kf)/\Q (O6 k left)}):Fh P c s O:=by
 refine Fi (fun n s=>∃left last,n=left.length/\s=S left last/\Q left) ⟨_,_,h0.le,L,none,rfl,rfl,q0⟩ ?_;rintro k s' ⟨left,last,rfl,rfl,hq⟩;refine Eo c (O:={O with n:=fun s2=>∃k Kf,k∈left/\LeTo D' s2 (S (O6 k left) Kf)/\Q (O6 k left)}) (fun s2 h=>?_) (fun _ _ h=>h) (fun _ h=>h) (fun _ _ h=>h) (hs left last hq)
 obtain⟨k,Kf,hk,hle,V0⟩:=h;exact⟨_,_,c7P hk,hle.le,_,_,rfl,rfl,V0⟩
def c9P(h:Hs)(es:List Ev)(i:Nat)(o:Ins):Prop:=(∀x,x∈h.order.take i->¬(x.table=o.table/\x.key=o.key))/\0<o.ZW.length∧
 ZH o.ZW.length fun k=>∀t,o.ZW[k]? =some t->Xz es t=5/\(o.table,o.key)∈Zv es t/\t∉o.ZW.take k
def iW(h:Hs)(es:List Ev):Prop:=(ZH h.order.length fun i=>∀o,h.order[i]? =some o->c9P h es i o)∧
 ∀t o,Xz es t=5->o∈Zv es t->∃x,x∈h.order/\(x.table=o.1/\x.key=o.2)/\t∈x.ZW
end Go.Rt
end

section
namespace Go.Rt
open Go.Vm
def d5a(h:Hs)(es:List Ev)(i:Nat)(t:Int)(o:Int×Vl):Prop:=(Xz es t=5/\o∈Zv es t)/\¬∃x,x∈h.order.take i/\(x.table=o.1/\x.key=o.2)/\t∈x.ZW
theorem d6a{h:Hs}(ZY:h.Ok)(es:List Ev)(Fc:es.length<2^40):ZU prog true QE [.iv (YN h es es)] [] (vb (Yp (iW h es))) []:=by
 refine YD a7d (by simp) (by decide) rfl ?_;simp-dsimp[Qq,YN];intro L _ hL _
 refine c8P [] [] (fun left last=>⟨[(20, .ptr 20 0),(0, .iv (YN h es es)),(3, .mpr 15)],[(20, .iter BR (vD es) left last),(15, .map iX (Sj fun t o=>(Xz es t=5/\o∈Zv es t)/\[Value.int .i64 t]∉left))]⟩)
  (fun left=>∀k,k∈left->k∈L) L ?_ (fun _ h=>h) ?_
 ·have h0:(Sj fun t o=>(Xz es t=5/\o∈Zv es t)/\[Value.int .i64 t]∉L)=fun _=>none:=by
   rw[<-c3O]
   refine c4O fun t o=>⟨?_,fun g=>g.elim⟩
   rintro⟨⟨_,g⟩,g2⟩;refine g2 ((hL _).2 ?_);rw[e2i (List.ne_nil_of_mem g)];intro g3;cases g3
  simp-dsimp[YN,h0]
 ·intro left last hq;simp-dsimp[Ki,YN];refine⟨?_,?_⟩
  ·rintro rfl;have P8:=ZY.order
   refine YZ [20] [10,11,14] h.order.length (fun i=>⟨[(51,vi i),(50,vi h.order.length),(49, .iv (.Z6 5 (Zh h.order))),(3, .mpr 15),(8, .mpr 44)],
    [(44, .map skM (Ve (h.order.take i))),(15, .map iX (Sj (d5a h es i)))]⟩) (fun i=>ZH i fun i=>∀o,h.order[i]? =some o->c9P h es i o) ?_ ?_ ?_
   ·have h0:(Sj fun t o=>(Xz es t=5/\o∈Zv es t)/\¬[Value.int .i64 t]∈([]:List (List Value)))=Sj (d5a h es 0):=c4O fun t o=>by simp[d5a]
    simp-dsimp[c2P];simpa using h0
   ·exact Tn
   ·intro i hi Wa;simp-dsimp[Kg];refine⟨fun ZV=>?_,fun X3=>?_⟩
    ·obtain⟨o,ho⟩:=Zw ZV;have hw:=Zo (n:=(i:Int)+1) (by omega);have hml:=c1P (h.order.take i) o.table o.key;rw[a7S]at hml;have UY:=Zo (n:=(Wf (h.order.take i) o.table o.key:Int)+1) (by omega);have Gq:=c0P (l:=h.order.take i) (table:=o.table) (k:=o.key)
     have Y6:¬c9P h es i o->¬iW h es:=fun g1 g=>g1 (g.1 i ZV o ho)
     by_cases hm:Wf (h.order.take i) o.table o.key=0
     ·have hg:Ve (h.order.take i) [.int .i64 o.table, .bool o.key.text, .int .i64 o.key.n, .string o.key.s]=none:=by simp[Ve,hm]
      have Ed:=c3P (h.order.take i) o;rw[hm]at Ed
      have f5Q:IntKind.i64.wrap 1=1:=by rw[IntKind.wrap_i64];omega
      have f5l:ZG (Ve (h.order.take i)) [.int .i64 o.table, .bool o.key.text, .int .i64 o.key.n, .string o.key.s] (some [ci 1])=Ve (h.order.take (i+1)):=by rw[N5 ho];exact Ed
      have hm1:Wf (h.order.take (i+1)) o.table o.key=1:=by rw[N5 ho,c9O,hm,if_pos ⟨rfl,rfl⟩]
      have Rl:=ZY.ZW o (a8y ho)
      have hLo:∀t,d5a h es i t (o.table,o.key)↔Xz es t=5/\(o.table,o.key)∈Zv es t:=fun t=>
       ⟨fun g=>g.1,fun g=>⟨g,fun⟨x,g1,g2,_⟩=>Gq.1 hm x g1 g2⟩⟩
      simp-dsimp[ho,Ins.Z8 o,hg,hm,f5Q,f5l,hm1];constructor
      all_goals
       intro n;refine⟨fun g=>Y6 fun g2=>absurd g2.2.1 (by rw[g];simp),fun ZS=>?_⟩
       refine YZ [10] [14] o.ZW.length (fun k=>⟨[(79,vi k),(78,vi o.ZW.length),(77, .iv (.Z6 1 (Yj o.ZW))),(11, .ptr 11 0),(51,vi i),(50,vi h.order.length),(49, .iv (.Z6 5 (Zh h.order))),(3, .mpr 15),(8, .mpr 44)],
        [(11, .box [.iv (ci o.table), .iv (cb o.key.text), .iv (ci o.key.n), .iv (.v (.string o.key.s))]),(44, .map skM (Ve (h.order.take (i+1)))),(15, .map iX (Sj fun t x=>d5a h es i t x/\¬(x=(o.table,o.key)/\t∈o.ZW.take k)))]⟩)
        (fun k=>ZH k fun k=>∀t,o.ZW[k]? =some t->Xz es t=5/\(o.table,o.key)∈Zv es t/\t∉o.ZW.take k) ?_ ?_ ?_
       ·simp-dsimp
       ·exact Tn
       ·intro k hk rn;simp-dsimp[Kh];refine⟨fun SN=>?_,fun JA=>?_⟩
        ·obtain⟨t,TL⟩:=Zw SN;have Ux:=Zo (n:=(k:Int)+1) (by omega);simp-dsimp[TL,Ux,c7O];refine⟨fun g=>Y6 fun g2=>?_,fun g1 g2=>⟨SN,?_,rn.succ fun t' JW=>?_⟩⟩
         ·obtain⟨a1,a2,a3⟩:=g2.2.2 k SN t TL;exact a3 (g ((hLo t).2 ⟨a1,a2⟩))
         ·refine(c6O _ t (o.table,o.key)).trans (c4O fun t' x=>?_);rw[N5 TL,a1E,a2z];constructor
          ·rintro⟨⟨a1,a2⟩,a3⟩;exact⟨a1,fun e g=>g.elim (a2 e) fun e2=>a3 ⟨e2,e⟩⟩
          ·rintro⟨a1,a2⟩;exact⟨⟨a1,fun e g=>a2 e (.inl g)⟩,fun g=>a2 g.2 (.inr g.1)⟩
         ·rw[TL]at JW;cases JW;exact⟨((hLo t).1 g1).1,((hLo t).1 g1).2,g2⟩
        ·simp-dsimp[hw];refine⟨ZV,c4O fun t x=>?_,ZH.succ Wa fun o' XQ=>?_⟩
         ·rw[a2B JA];unfold d5a;rw[N5 ho];constructor
          ·rintro⟨⟨a1,a2⟩,a3⟩;refine⟨a1,?_⟩;rintro⟨y,b1,b2,b3⟩
           rcases a1E.1 b1 with b1|b1
           ·exact a2 ⟨y,b1,b2,b3⟩
           ·simp only[a2z]at b1;subst b1;exact a3 (by rw[b2.1,b2.2]) b3
          ·rintro⟨a1,a2⟩;refine⟨⟨a1,fun⟨y,b1,b2,b3⟩=>a2 ⟨y,a6O _ b1,b2,b3⟩⟩,fun e g=>a2 ⟨o,by simp,?_,g⟩⟩;subst e;exact⟨rfl,rfl⟩
         ·rw[ho]at XQ;cases XQ;exact⟨Gq.1 hm,a6I.2 ZS,fun j hj=>rn j (by omega)⟩
     ·have hn:¬c9P h es i o:=fun g=>hm (Gq.2 g.1)
      obtain⟨c,hc⟩:∃c,Ve (h.order.take i) [.int .i64 o.table, .bool o.key.text, .int .i64 o.key.n, .string o.key.s]=some c:=⟨_,by simp only[Ve];rw[if_neg hm]⟩
      have Ri:c=[ci (Wf (h.order.take i) o.table o.key)]:=by
       simp only[Ve]at hc;rw[if_neg hm]at hc;exact(c0i hc).symm
      have hgt:(1:Int)<(Wf (h.order.take i) o.table o.key:Int)+1:=by omega
      subst Ri;simp-dsimp[ho,Ins.Z8 o,UY,hc,hgt];exact Y6 hn
    ·intro n hn
     have h2:(n=0)↔iW h es:=by
      rw[hn,c8O]
      have VZ:i=h.order.length:=by omega
      subst VZ;unfold iW d5a;rw[a7I];constructor
      ·intro g;refine⟨Wa,fun t o g1 g2=>?_⟩;have:=g t o
       exact a9M fun g3=>this ⟨⟨g1,g2⟩,g3⟩
      ·rintro⟨_,g⟩ t o ⟨⟨g1,g2⟩,g3⟩;exact g3 (g t o g1 g2)
     rw[Tz, <-h2];simp
  ·intro k c hk hc hkd;obtain⟨txn,rfl,hsp,rfl⟩:=c4P hc;simp-dsimp[hc]
   by_cases h5:Xz es txn=5
   ·have hsl:=e0i es txn;simp-dsimp[h5]
    refine YZ [] [7] (Zv es txn).length (fun i=>⟨[(35,vi i),(34,vi (Zv es txn).length),(33, .iv (.Z6 4 ((Zv es txn).map GU))),(4,vi txn),(20, .ptr 20 0),(0, .iv (YN h es es)),(3, .mpr 15)],
     [(20, .iter BR (vD es) (O6 [.int .i64 txn] left) (some [.int .i64 txn])),(15, .map iX (Sj fun t o=>((Xz es t=5/\o∈Zv es t)/\[Value.int .i64 t]∉left)\/(t=txn/\o∈(Zv es txn).take i)))]⟩) (fun _=>True) ?_ trivial ?_
    ·simp-dsimp[YN]
    ·intro i hi _;simp-dsimp[Kj,YN];refine⟨fun ZV=>?_,fun X3=>?_⟩
     ·obtain⟨o,ho⟩:=Zw ZV;have hw:=Zo (n:=(i:Int)+1) (by omega);simp-dsimp[ho,GU,hw,c5O,N5 ho];exact⟨ZV,c4O fun t x=>by grind⟩
     ·refine⟨_,hk,⟨rfl,c4O fun t x=>?_⟩,fun q V0=>hq q (c6P.1 V0).1⟩;rw[a2B X3,c6P];constructor
      ·rintro(⟨g1,g2⟩|⟨rfl,g⟩)
       ·exact⟨g1,fun g=>g2 g.1⟩
       ·exact⟨⟨h5,g⟩,fun g=>g.2 rfl⟩
      ·rintro⟨⟨g1,g2⟩,g3⟩
       by_cases e:t=txn
       ·subst e;exact .inr ⟨rfl,g2⟩
       ·exact .inl ⟨⟨g1,g2⟩,fun g=>g3 ⟨g,fun e2=>e (by cases e2;rfl)⟩⟩
   ·simp-dsimp[h5];refine⟨_,hk,⟨rfl,c4O fun t x=>?_⟩,fun q V0=>hq q (c6P.1 V0).1⟩;rw[c6P];constructor
    ·rintro⟨g1,g2⟩;exact⟨g1,fun g=>g2 g.1⟩
    ·rintro⟨⟨g1,g2⟩,g3⟩;exact⟨⟨g1,g2⟩,fun g=>g3 ⟨g,fun e2=>h5 (by cases e2;exact g1)⟩⟩
def f8O(h:Hs)(es:List Ev)(e:Ev):Prop:=Ij es e/\(e.kind=2->JD h es e)/\(e.kind=4->EP h es e)
def DX(h:Hs)(es:List Ev)(e:Ev):Prop:=Ij es e/\(e.kind=2->JD h es e)/\(e.kind=4->EP h es e)/\(e.kind=3->Ig h es e)
noncomputable def EM(h:Hs)(es:List Ev)(e:Ev):List Ev:= @ite _ (f8O h es e) (b7p _) (sa h es e) es
theorem c8j{h:Hs}(ht:h.WS)(Rl:h.tables.length<2^63)(es:List Ev)(Fc:es.length<2^40)(e:Ev)(XR:e.Ok):
 ZU prog false RW [e.av, .ptr 1004 0] ((1004, .box [.ptr 1000 0])::ckH h es es es) (vb (Yp (DX h es e))) ((1004, .box [.ptr 1000 0])::ckH h (Fe es e) (EM h es e) (EM h es e)):=by
 refine a3L ot (by simp) (by decide) rfl rfl ?_
 have hEF:¬Ij es e->Fe es e=es:=fun g=>if_neg g
 simp-dsimp[a5d,Ev.av];refine TB (a2Q h es es es e) rfl (by simp) (by simp[Ev.av]) (by simp[Ev.av]) (by simp) (by simp) (by simp) (by simp) ?_;simp-dsimp;refine⟨fun h1=>?_,fun h1=>?_⟩
 ·refine Zu (b8O ht (Fe es e) es e) (by simp[YN,Ev.av];rfl) (by simp[YN,Ev.av]) ?_
  by_cases h2:e.kind=2->JD h es e
  ·simp-dsimp[Rn.2 h2];refine Zu (b0P ht Rl (Fe es e) es (by omega) e XR) (by simp[YN,Ev.av];rfl) (by simp[YN,Ev.av]) ?_
   by_cases h3:e.kind=4->EP h es e
   ·have hX:EM h es e=sa h es e:=if_pos ⟨h1,h2,h3⟩;rw[hX];simp-dsimp[Rn.2 h3];refine TB (a3Q ht (Fe es e) es Fc e) rfl (by simp) (by simp[Ev.av]) (by simp[Ev.av]) (by simp) (by simp) (by simp) (by simp) ?_;simp-dsimp[d8P];exact⟨fun g=>⟨h1,h2,h3,g⟩,fun g=>g.2.2.2⟩
   ·have hX:EM h es e=es:=if_neg fun g=>h3 g.2.2
    rw[hX];simp-dsimp[NG.2 h3]
    exact fun g=>h3 g.2.2.1
  ·have hX:EM h es e=es:=if_neg fun g=>h2 g.2.1
   rw[hX];simp-dsimp[NG.2 h2]
   exact fun g=>h2 g.2.1
 ·have hX:EM h es e=es:=if_neg fun g=>h1 g.1
  rw[hX];exact⟨fun g=>h1 g.1,rfl,rfl⟩
theorem Ev.Z4(e:Ev):e.av= .agg ([ci e.txn,ci e.kind,ci e.level,ci e.table,cb e.key.text,ci e.key.n, .v (.string e.key.s),ci e.ZX.txn,ci e.ZX.n,ci e.n, .Z6 3 (YM e.row),
 ci e.pred.op,ci e.pred.col,cb e.pred.v.text,ci e.pred.v.n, .v (.string e.pred.v.s),cb e.pred.w.text,ci e.pred.w.n, .v (.string e.pred.w.s), .Z6 9 (e.pred.l.map Pd.cells), .Z6 5 (Nn e.refs),cb e.cur].map .iv):=by
 unfold Ev.av;rw[Ev.Z8]
abbrev f2l(h:Hs):Ob:= .box [.iv (.Z6 1 (Zd h.tables)), .iv (.Z6 22 (Zi h.events)), .iv (.Z6 5 (Zh h.order)), .mpr 11, .mpr 12, .mpr 13]
abbrev lkH(h:Hs)(a b c:List Ev):Hp:=[(3, .box [.ptr 15 0]),(15,f2l h),(11, .map BR (gS a)),(12, .map iX (gW b)),(13, .YJ BR 4 (gP c) none)]
theorem c2I{h:Hs}(ht:h.WS)(Rl:h.tables.length<2^63)(es:List Ev)(Fc:es.length<2^40)(e:Ev)(XR:e.Ok):
 ZU prog false RW [e.av, .ptr 3 0] (lkH h es es es) (vb (Yp (DX h es e))) (lkH h (Fe es e) (EM h es e) (EM h es e)):=by
 have hs:=c8j ht Rl es Fc e XR;rw[Ev.Z4]at hs⊢;exact hs.Zk (Ren.WD [(1004,3),(1000,15),(1001,11),(1002,12),(1003,13)]) rfl
theorem c3I{P:Program}{c:Z9}{s s':St}{O:YC}(h:Le s s')(k:Fh P c s' O):Fh P c s O:=by
 obtain⟨I,h3,h4⟩:=k;exact⟨I,h3.le h,h4⟩
theorem c4I:gS []=fun _=>none:=by
 funext q;unfold gS;split
 ·rfl
 ·rfl
theorem c5I:gW []=fun _=>none:=by
 funext q;unfold gW;split
 ·rfl
 ·rfl
theorem c6I:gP []=fun _=>none:=by
 funext q;unfold gP;split
 ·rfl
 ·rfl
theorem c7I:XI prog RW=true:=by kernel_rfl
theorem c8I:XI prog QE=true:=by kernel_rfl
def c9I(h:Hs):Prop:=((1<=h.tables.length/\h.tables.length<=3)/\ZH h.tables.length fun i=>∀t,h.tables[i]? =some t->WQ t)∧
 (ZH h.events.length fun i=>∀e,h.events[i]? =some e->DX h (h.events.take i) e)/\iW h h.events
noncomputable def c0J(h:Hs):Int:=if Yp (c9I h)=true then 0 else 180
theorem c1J{h:Hs}(hc:c9I h):c0J h=0:=if_pos (Rn.2 hc)
theorem c2J{h:Hs}(hc:¬c9I h):c0J h=180:=if_neg (by simpa using hc)
theorem c3J{h:Hs}(ZY:h.Ok)(XS:h.events.length<2^40):ZU prog true HX [h.av] [] (vi (c0J h)) []:=by
 refine YD iV (by simp) (by decide) rfl ?_
 by_cases hn:1<=h.tables.length/\h.tables.length<=3
 ·have n1:¬(
   h.tables.length:Int)<1:=by omega
  have n2:¬(3:Int)<h.tables.length:=by omega
  simp-dsimp[a9b,Hs.av,n1,n2];refine c3I (e3p _ (id:=13) (sk:=BR) 4 rfl (by simp)) ?_
  refine YZ [] [7] h.tables.length (fun i=>⟨[(32,vi i),(31,vi h.tables.length),(30, .iv (.Z6 1 (Zd h.tables))),(4, .fn RW [] [.ptr 3 0]),(5, .fn QE [.ptr 15 0] []),(1, .ptr 1 0)],
   (1, .box [.iv (.Z6 1 (Zd h.tables)), .iv (.Z6 22 (Zi h.events)), .iv (.Z6 5 (Zh h.order))])::lkH h [] [] []⟩) (fun i=>ZH i fun i=>∀t,h.tables[i]? =some t->WQ t) ?_ ?_ ?_
  ·simp-dsimp[c4I,c5I,c6I]
  ·exact Tn
  ·intro i hi hq;simp-dsimp[KK];refine⟨fun ZV=>?_,fun X3=>?_⟩
   ·obtain⟨t,iU⟩:=Zw ZV;have hw:=Zo (n:=(i:Int)+1) (by omega);simp-dsimp[iU];refine Zu (e4c t) (by simp[YS]) (by simp[YS]) ?_;simp-dsimp[hw];refine⟨fun g=>?_,fun g=>⟨ZV,hq.succ fun t' JW=>by rw[iU]at JW;cases JW;exact g⟩⟩;rw[c2J fun g2=>g (g2.1.2 i ZV t iU)]
   ·have hT:h.WS:=fun t ht=>by
     obtain⟨j,hj⟩:=a9B ht;exact hq j (by have:=(a7y.1 hj).1;omega) t hj
    have Rl:=ZY.tables
    refine YZ [] [9] h.events.length (fun i=>⟨[(43,vi i),(42,vi h.events.length),(41, .iv (.Z6 22 (Zi h.events))),(4, .fn RW [] [.ptr 3 0]),(5, .fn QE [.ptr 15 0] []),(1, .ptr 1 0)],
     (1, .box [.iv (.Z6 1 (Zd h.tables)), .iv (.Z6 22 (Zi h.events)), .iv (.Z6 5 (Zh h.order))])::lkH h (h.events.take i) (h.events.take i) (h.events.take i)⟩)
     (fun i=>ZH i fun i=>∀e,h.events[i]? =some e->DX h (h.events.take i) e) ?_ ?_ ?_
    ·simp-dsimp
    ·exact Tn
    ·intro j hj JC;simp-dsimp[KJ];refine⟨fun Xk=>?_,fun P4=>?_⟩
     ·obtain⟨e,he⟩:=Zw Xk;have Nl:=Zo (n:=(j:Int)+1) (by omega);have XR:=ZY.ev e (a8y he)
      have hlen:(h.events.take j).length<2^40:=by rw[a7S];omega
      simp-dsimp[he];refine⟨c7I,TB (c2I hT Rl (h.events.take j) hlen e XR) rfl (by simp) (by simp[Ev.av]) (by simp[Ev.av]) (by simp) (by simp) (by simp) (by simp) ?_⟩
      by_cases ha:DX h (h.events.take j) e
      ·have e1:Fe (h.events.take j) e=h.events.take (j+1):=by rw[N5 he];exact if_pos ha.1
       have e2:EM h (h.events.take j) e=h.events.take (j+1):=by
        rw[N5 he];unfold EM;rw[if_pos ⟨ha.1,ha.2.1,ha.2.2.1⟩]
        exact if_pos fun g=>⟨(ha.2.2.2 g).1,(ha.2.2.2 g).2.1⟩
       simp-dsimp[ha,e1,e2,Nl];exact⟨Xk,JC.succ fun e' Xr=>by rw[he]at Xr;cases Xr;exact ha⟩
      ·simp-dsimp[ha];rw[c2J fun g2=>ha (g2.2.1 j Xk e he)]
     ·rw[a2B P4];refine⟨c8I,O8 (d6a ZY h.events XS) (by simp) (by simp[YN];rfl) (by simp[YN]) ?_⟩;simp-dsimp;constructor
      ·intro g;rw[c1J ⟨⟨hn,fun k hk=>hq k (by omega)⟩,fun k hk=>JC k (by omega),g⟩]
      ·intro g;rw[c2J fun g2=>g g2.2.2]
 ·have Y6:¬c9I h:=fun g=>hn g.1.1
  by_cases n1:(h.tables.length:Int)<1
  ·simp-dsimp[a9b,Hs.av,n1,c2J Y6]
  ·have n2:(3:Int)<h.tables.length:=by omega
   simp-dsimp[a9b,Hs.av,n1,n2,c2J Y6]
theorem d5c{α:Type}{p:List α->Prop}(nil:p [])(snoc:∀(l:List α) (x:α),p l->p (l++[x]))(l:List α):p l:=by
 rw[<-d4h l]
 induction l.reverse with
 |nil=>exact nil
 |cons x r ih=>rw[d9p];exact snoc _ _ ih
theorem d6c:∀{x y z:List UInt8},Op.bytesLess x y=true->Op.bytesLess y z=true->Op.bytesLess x z=true
 | _,[],_,h,_=>by simp[Op.bytesLess]at h
 | _,_::_,[],_,h=>by simp[Op.bytesLess]at h
 | [],_::_,_::_,_,_=>rfl
 |a::x,b::y,c::z,h1,h2=>by
  simp only[Op.bytesLess,b6L,decide_eq_true_eq,a4C,beq_iff_eq]at h1 h2⊢
  rcases h1 with h1|⟨rfl,h1⟩
  ·rcases h2 with h2|⟨rfl,h2⟩
   ·exact .inl (UInt8.lt_trans h1 h2)
   ·exact .inl h1
  ·rcases h2 with h2|⟨rfl,h2⟩
   ·exact .inl h2
   ·exact .inr ⟨rfl,d6c h1 h2⟩
theorem d7c{a b:ByteArray}:WO a b<0↔UI a b=true:=by
 unfold WO;split
 ·rename_i h;simp[h]
 ·rename_i h;split<;>simp[h]
theorem d8c{a b:Int}:RM a b<0↔a<b:=by
 unfold RM;split
 ·rename_i h;simp[h]
 ·rename_i h;split<;>simp[h]
theorem d9c{a b:Vl}:a.cmp b<0↔(a.text=true/\b.text=true/\UI a.s b.s=true)\/(a.text=false/\b.text=true)\/(a.text=false/\b.text=false/\a.n<b.n):=by
 unfold Vl.cmp
 cases a.text<;>cases b.text<;>simp[d7c,d8c]
theorem d0d{a b c:Vl}(h1:a.cmp b<0)(h2:b.cmp c<0):a.cmp c<0:=by
 rw[d9c]at*
 rcases h1 with⟨h1,h3,h4⟩|⟨h1,h3⟩|⟨h1,h3,h4⟩<;>rcases h2 with⟨g1,g3,g4⟩|⟨g1,g3⟩|⟨g1,g3,g4⟩<;>simp_all
 ·exact d6c h4 g4
 ·omega
theorem d1d(a:Vl):¬a.cmp a<0:=by
 rw[d9c];simp[b2u]
theorem d2d{h:Hs}{es:List Ev}{e:Ev}(hr:ZH e.refs.length (Np h es e)):∀{i j:Nat},i<j->∀{a b:Rf},e.refs[i]? =some a->e.refs[j]? =some b->a.key.cmp b.key<0:=by
 intro i j
 induction j with
 |zero=>intro h;omega
 |succ j ih=>
  intro Xo a b ha hb;have RO:=(a7y.1 hb).1;obtain⟨q,hq⟩:∃q,e.refs[j]? =some q:=Zw (by omega);have h1:=(hr (j+1) RO b hb).2.2 q (by omega) (by simpa using hq)
  rcases a6U i j with h2|h2
  ·exact d0d (ih h2 ha hq) h1
  ·obtain rfl:i=j:=by omega
   rw[ha]at hq;cases hq;exact h1
theorem d3d{l:List Rf}(hu:∀a b,a∈l->b∈l->a.key=b.key->a=b):∀k v,Lj l k=some v↔IG l k v:=by
 intro k v
 have key:∀(l':List Rf),(∀a,a∈l'->a∈l)->(Lj l' k=some v↔IG l' k v):=by
  intro l'
  induction l' using d5c with
  |nil=>intro _;simp[Lj]
  |snoc l' r ih=>
   intro hs
   have ih:=ih fun a ha=>hs a (a6O _ ha)
   rw[e7h]
   have e2C:IG (l'++[r]) k v↔IG l' k v\/(r.key=k/\r.ZX=v):=by
    rw[d9v, <-Vl.eq_iff, <-Vs.eq_iff]
   rw[e2C]
   by_cases hk:r.key=k
   ·rw[if_pos hk];constructor
    ·intro g;exact .inr ⟨hk,c0i g⟩
    ·rintro(⟨q,g1,g2,g3⟩|⟨_,g⟩)
     ·have:=hu q r (hs q (a6O _ g1)) (hs r (by simp)) (by rw[g2,hk]);subst this;rw[g3]
     ·rw[g]
   ·rw[if_neg hk,ih];exact⟨.inl,fun g=>g.elim id fun g=>absurd g.1 hk⟩
 exact key l fun _ h=>h
theorem d4d{h:Hs}{es:List Ev}{e:Ev}(hr:ZH e.refs.length (Np h es e)):∀a b,a∈e.refs->b∈e.refs->a.key=b.key->a=b:=by
 intro a b ha hb hk;obtain⟨i,hi⟩:=a9B ha;obtain⟨j,hj⟩:=a9B hb
 rcases c0y i j with h1|h1|h1
 ·have:=d2d hr h1 hi hj;rw[hk]at this;exact absurd this (d1d _)
 ·subst h1;rw[hi]at hj;exact c0i hj
 ·have:=d2d hr h1 hj hi;rw[hk]at this;exact absurd this (d1d _)
def IT(es:List Ev):Prop:=∀t,(¬M6 es t/\OZ es t/\Xz es t=0/\W6 es t=0)\/(M6 es t/\OZ es t/\Xz es t=1/\W6 es t=0)∨
 (M6 es t/\¬OZ es t/\Xz es t=W6 es t/\(W6 es t=5\/W6 es t=6))
theorem IT.nil:IT []:=fun t=> .inl ⟨by simp,by simp,rfl,rfl⟩
theorem IT.ck{es:List Ev}(hs:IT es)(e:Ev):Ij es e↔GR es e:=by
 unfold Ij GR
 rcases hs e.txn with⟨h1,h2,h3,h4⟩|⟨h1,h2,h3,h4⟩|⟨h1,h2,h3,h4⟩
 ·rw[h3];simp only[h1,h2];grind
 ·rw[h3];simp only[h1,h2];grind
 ·rw[h3];simp only[h1,h2];grind
theorem d6d{es:List Ev}{t:Int}:OZ es t↔∀x,x∈es->¬x.ends t:=by
 unfold OZ Ev.ends;constructor
 ·rintro h x hx ⟨h1,h2⟩;have:=h x hx h1;omega
 ·intro h x hx h1;have:=h x hx;constructor<;>(intro h2;exact this ⟨h1,by omega⟩)
theorem d7d{es r:List Ev}{t:Int}(h:OZ es t):W6 (es++r) t=W6 r t:=by
 rw[d6d]at h
 induction es with
 |nil=>rfl
 |cons x es ih=>
  rw[c6h,W6,if_neg (h x a8C)]
  exact ih fun y hy=>h y (a2C _ hy)
theorem d8d{es r:List Ev}{t:Int}(h:¬OZ es t):W6 (es++r) t=W6 es t:=by
 rw[d6d]at h
 induction es with
 |nil=>exact absurd (fun x hx=>by cases hx) h
 |cons x es ih=>
  rw[c6h,W6,W6]
  by_cases hx:x.ends t
  ·rw[if_pos hx,if_pos hx]
  ·rw[if_neg hx,if_neg hx]
   refine ih fun g=>h fun y hy=>?_
   rcases a2E.1 hy with rfl|hy
   ·exact hx
   ·exact g y hy
theorem d9d(e:Ev)(t:Int):W6 [e] t=if e.ends t then e.kind else 0:=by rw[W6];rfl
theorem IT.next{es:List Ev}(hs:IT es){e:Ev}(hf:GR es e):IT (es++[e]):=by
 intro t;obtain⟨f1,f2,f3,f4,f5,f6⟩:=hf;rw[d5Q,d6Q,e5h]
 by_cases ht:e.txn=t
 ·subst ht;rw[d7d f4,d9d];have FX:e.ends e.txn↔e.kind=5\/e.kind=6:=⟨fun g=>g.2,fun g=>⟨rfl,g⟩⟩
  rcases hs e.txn with⟨h1,h2,h3,h4⟩|⟨h1,h2,h3,h4⟩|⟨h1,h2,h3,h4⟩
  ·have k1:e.kind=1:=a9M fun g=>h1 (f6 g)
   right;left
   have:¬e.ends e.txn:=fun g=>by have:=FX.1 g;omega
   simp[k1,h2,this]
  ·have k1:e.kind≠1:=fun g=>(f5 g).1 h1
   by_cases k5:e.kind=5\/e.kind=6
   ·right;right;rw[if_pos ⟨rfl, .inr k5⟩,if_pos (FX.2 k5)];refine⟨.inl h1,?_,rfl,k5⟩;rintro⟨_,g⟩;have:=g rfl;omega
   ·right;left;rw[if_neg (by rintro⟨_,g⟩;omega),if_neg (fun g=>k5 (FX.1 g))];exact⟨.inl h1,⟨h2,fun _=>by omega⟩,h3,rfl⟩
  ·exact absurd f4 h2
 ·have e1:Xz es t=Xz es t:=rfl;rw[if_neg fun g=>ht g.1]
  have e2:W6 (es++[e]) t=W6 es t:=by
   by_cases hn:OZ es t
   ·rw[d7d hn,d9d,if_neg fun g=>ht g.1];exact(b6j fun x hx=>d6d.1 hn x hx).symm
   ·exact d8d hn
  rw[e2];have e3:(M6 es t\/e.txn=t)↔M6 es t:=⟨fun g=>g.elim id fun g=>absurd g ht, .inl⟩;have e4:(OZ es t/\(e.txn=t->e.kind≠5/\e.kind≠6))↔OZ es t:=⟨fun g=>g.1,fun g=>⟨g,fun g2=>absurd g2 ht⟩⟩;rw[e3,e4];exact hs t
def d0e(es:List Ev):Prop:=ZH es.length fun i=>∀e,es[i]? =some e->GR (es.take i) e
theorem d1e{α:Type}{l:List α}{x:α}{p:List α->α->Prop}:(ZH (l++[x]).length fun i=>∀e,(l++[x])[i]? =some e->p ((l++[x]).take i) e)↔
 (ZH l.length fun i=>∀e,l[i]? =some e->p (l.take i) e)/\p l x:=by
 constructor
 ·intro h;refine⟨fun i hi e he=>?_,?_⟩
  ·have:=h i (by rw[a7J];omega) e (by rw[a1N hi];exact he);rwa [c0Q (by omega)]at this
  ·have:=h l.length (by simp) x (by simp);rwa [d4P]at this
 ·rintro⟨h1,h2⟩ i hi e he
  by_cases hl:i<l.length
  ·rw[a1N hl]at he;rw[c0Q (by omega)];exact h1 i hl e he
  ·have:i=l.length:=by simp at hi;omega
   subst this;rw[d4P];simp at he;subst he;exact h2
theorem d0e.stands{es:List Ev}:d0e es->IT es:=by
 induction es using d5c with
 |nil=>exact fun _=>IT.nil
 |snoc es e ih=>intro h;have:=d1e.1 h;exact(ih this.1).next this.2
def d2e(es:List Ev):Prop:=ZH es.length fun i=>∀e,es[i]? =some e->e.kind=3->e.n=Yo (es.take i) e.txn e.table e.key+1
theorem d2e.Zv{es:List Ev}:d2e es->∀t o,o∈Zv es t↔0<Yo es t o.1 o.2:=by
 induction es using d5c with
 |nil=>intro _ t o;simp[Go.Rt.Zv,Yo]
 |snoc es e ih=>
  intro h t o;have h2:=(d1e (p:=fun(es:List Ev) (e:Ev)=>e.kind=3->e.n=Yo es e.txn e.table e.key+1)).1 h;rw[e8i,e5i,a1E,ih h2.1 t o];obtain⟨tab,k⟩:=o
  by_cases hw:e.Qt t tab k=true
  ·rw[if_pos hw];obtain⟨w1,w2,w3,w4⟩:=Ev.Yw.1 hw;have hk:=Vl.eq_iff.2 w4;subst w2 w3 hk;have hn:=h2.2 w1
   by_cases h0:0<Yo es e.txn e.table e.key
   ·simp[h0]
   ·rw[if_pos ⟨w1,rfl,by omega⟩];simp
  ·rw[if_neg hw,b1P];constructor
   ·rintro(g|g)
    ·exact g
    ·split at g
     ·rename_i c;simp only[a2z,Prod.mk.injEq]at g;exact absurd (Ev.Yw.2 ⟨c.1,c.2.1,g.1.symm,by rw[g.2],by rw[g.2],by rw[g.2]⟩) hw
     ·cases g
   ·exact .inl
theorem d3e{es:List Ev}{t tab:Int}{k:Vl}:0<Yo es t tab k↔∃x,x∈es/\x.kind=3/\x.txn=t/\x.table=tab/\x.key=k:=by
 unfold Yo;rw[List.length_pos_iff_exists_mem];constructor
 ·rintro⟨x,hx⟩;obtain⟨h1,h2⟩:=a0F.1 hx;obtain⟨w1,w2,w3,w4⟩:=Ev.Yw.1 h2;exact⟨x,h1,w1,w2,w3,Vl.eq_iff.2 w4⟩
 ·rintro⟨x,h1,w1,w2,w3,w4⟩;exact⟨x,a0F.2 ⟨h1,Ev.Yw.2 ⟨w1,w2,w3,Vl.eq_iff.1 w4⟩⟩⟩
theorem d4e{h:Hs}{es:List Ev}(hc:d2e es){e:Ev}(he:1<=e.txn):EP h es e↔d6v h es e:=by
 unfold EP d6v
 refine and_congr_right fun _=>and_congr_right fun hr=>?_
 have hl:=d3d (d4d hr);constructor
 ·intro g x hx k3 k1 k2;have Yy:0<Yo es e.txn x.table x.key:=d3e.2 ⟨x,hx,k3,k1,rfl,rfl⟩;have:=g (x.table,x.key) ((hc.Zv _ _).2 Yy) k2;rw[k2]at this
  cases hlr:Lj e.refs x.key with
  |none=>rw[hlr]at this;have:=congrArg Vs.txn this;simp at this;omega
  |some v=>rw[hlr]at this;simp only[a2L]at this;subst this;exact(hl _ _).1 hlr
 ·rintro g ⟨tab,k⟩ ho rfl;have Yy:=(hc.Zv _ _).1 ho;obtain⟨x,hx,k3,k1,k2,rfl⟩:=d3e.1 Yy;have:=g x hx k3 k1 k2;have h5:=(hl _ _).2 this;simp only;rw[h5];rfl
theorem d5e{h:Hs}{es:List Ev}(hs:IT es)(hc:d2e es){e:Ev}:DX h es e↔Nk h es e:=by
 unfold DX Nk;rw[hs.ck];constructor
 ·rintro⟨h1,h2,h3,h4⟩;exact⟨h1,h2,h4,fun g=>(d4e hc h1.1).1 (h3 g)⟩
 ·rintro⟨h1,h2,h3,h4⟩;exact⟨h1,h2,fun g=>(d4e hc h1.1).2 (h4 g),h3⟩
def d6e(h:Hs)(es:List Ev):Prop:=ZH es.length fun i=>∀e,es[i]? =some e->Nk h (es.take i) e
theorem d6e.good{h:Hs}{es:List Ev}(g:d6e h es):d0e es/\d2e es:=
 ⟨fun i hi e he=>(g i hi e he).1,fun i hi e he k3=>((g i hi e he).2.2.1 k3).2.1⟩
theorem d7e{h:Hs}(es:List Ev):(ZH es.length fun i=>∀e,es[i]? =some e->DX h (es.take i) e)↔d6e h es:=by
 induction es using d5c with
 |nil=>exact⟨fun _=>Tn,fun _=>Tn⟩
 |snoc es e ih=>
  unfold d6e;rw[d1e (p:=DX h),d1e (p:=Nk h),ih]
  refine and_congr_right fun g=>?_
  exact d5e g.good.1.stands g.good.2
theorem d8e{es:List Ev}(hs:IT es)(t:Int):Xz es t=5↔W6 es t=5:=by
 rcases hs t with⟨_,_,h3,h4⟩|⟨_,_,h3,h4⟩|⟨_,_,h3,h4⟩<;>omega
theorem d9e{h:Hs}(hs:IT h.events)(hc:d2e h.events):iW h h.events↔
 (ZH h.order.length fun i=>∀o,h.order[i]? =some o->GQ h i o)/\ZH h.events.length fun i=>∀e,h.events[i]? =some e->DZ h e:=by
 unfold iW;refine and_congr ?_ ?_
 ·have key:∀i o,c9P h h.events i o↔GQ h i o:=by
   intro i o;unfold c9P GQ;constructor
   ·rintro⟨h1,h2,h3⟩;exact⟨h1,fun k hk t ht=>⟨(d8e hs t).1 (h3 k hk t ht).1,d2p.1 ((hc.Zv _ _).1 (h3 k hk t ht).2.1),(h3 k hk t ht).2.2⟩,h2⟩
   ·rintro⟨h1,h2,h3⟩;exact⟨h1,h3,fun k hk t ht=>⟨(d8e hs t).2 (h2 k hk t ht).1,(hc.Zv _ _).2 (d2p.2 (h2 k hk t ht).2.1),(h2 k hk t ht).2.2⟩⟩
  constructor
  ·intro g i hi o ho;exact(key i o).1 (g i hi o ho)
  ·intro g i hi o ho;exact(key i o).2 (g i hi o ho)
 ·constructor
  ·intro g i hi e he k3 k5;have hm:=a8y he;exact g e.txn (e.table,e.key) ((d8e hs _).2 k5) ((hc.Zv _ _).2 (d3e.2 ⟨e,hm,k3,rfl,rfl,rfl⟩))
  ·rintro g t ⟨tab,k⟩ h1 h2;obtain⟨x,hx,k3,rfl,rfl,rfl⟩:=d3e.1 ((hc.Zv _ _).1 h2);obtain⟨i,hi⟩:=a9B hx;exact g i (a7y.1 hi).1 x hi k3 ((d8e hs _).1 h1)
theorem d0f(h:Hs):c9I h↔YP h:=by
 unfold c9I YP;rw[d7e]
 have hT:((1<=h.tables.length/\h.tables.length<=3)/\ZH h.tables.length fun i=>∀t,h.tables[i]? =some t->WQ t)↔oR h:=by
  unfold oR
  refine and_congr_right fun _=>?_
  constructor
  ·intro g t ht;obtain⟨j,hj⟩:=a9B ht;exact g j (a7y.1 hj).1 t hj
  ·intro g i hi t ht;exact g t (a8y ht)
 rw[hT]
 refine and_congr_right fun _=>?_
 constructor
 ·rintro⟨g1,g2⟩;have g3:=(d9e g1.good.1.stands g1.good.2).1 g2;exact⟨fun i hi e he=>⟨g1 i hi e he,g3.2 i hi e he⟩,g3.1⟩
 ·rintro⟨g1,g2⟩
  have g4:d6e h h.events:=fun i hi e he=>(g1 i hi e he).1
  exact⟨g4,(d9e g4.good.1.stands g4.good.2).2 ⟨g2,fun i hi e he=>(g1 i hi e he).2⟩⟩
structure Xi {α:Type} (c:α->α->Int):Prop where
 W0:∀a b,c a b<0↔0<c b a
 trans:∀a b d,c a b<=0->c b d<=0->c a d<=0
def RF{α:Type}(c1 c2:α->α->Int)(a b:α):Int:=if c1 a b≠0 then c1 a b else c2 a b
theorem Xi.lex{α:Type}{c1 c2:α->α->Int}(h1:Xi c1)(h2:Xi c2):Xi (RF c1 c2) where
 W0:=fun a b=>by
  have p1:=h1.W0 a b;have p2:=h1.W0 b a;have q1:=h2.W0 a b;unfold RF
  by_cases e:c1 a b=0
  ·have e2:c1 b a=0:=by omega
   rw[if_neg (by simpa using e),if_neg (by simpa using e2)];exact q1
  ·have e2:c1 b a≠0:=by omega
   rw[if_pos e,if_pos e2];exact p1
 trans:=fun a b d Nv hbd=>by
  have p1:=h1.W0 a b;have p2:=h1.W0 b a;have p3:=h1.W0 b d;have p4:=h1.W0 d b;have p5:=h1.W0 a d;have p6:=h1.W0 d a;have t1:=h1.trans a b d;have t2:=h1.trans d a b;have t3:=h1.trans b d a;have q:=h2.trans a b d;unfold RF at Nv hbd⊢
  split at Nv<;>split at hbd<;>split<;>omega
theorem Xi.sub{α:Type}(f:α->Int):Xi fun a b=>f a-f b:=⟨fun a b=>by omega,fun a b d h1 h2=>by omega⟩
theorem Xi.of{α β:Type}(f:α->β){c:β->β->Int}(h:Xi c):Xi fun a b=>c (f a) (f b):=⟨fun a b=>h.W0 _ _,fun a b d=>h.trans _ _ _⟩
theorem c1p:∀(x y:List UInt8),Op.bytesLess x y=true\/x=y\/Op.bytesLess y x=true
 | [],[]=> .inr (.inl rfl)
 | [],_::_=> .inl rfl
 | _::_,[]=> .inr (.inr rfl)
 |a::x,b::y=>by
  simp only[Op.bytesLess,b6L,decide_eq_true_eq,a4C,beq_iff_eq,a4S]
  have Nv:a<b\/a=b\/b<a:=by
   rw[UInt8.lt_iff_toNat_lt,UInt8.lt_iff_toNat_lt, <-UInt8.toNat_inj];omega
  rcases Nv with h|rfl|h
  ·exact .inl (.inl h)
  ·rcases c1p x y with h|rfl|h
   ·exact .inl (.inr ⟨rfl,h⟩)
   ·exact .inr (.inl ⟨rfl,rfl⟩)
   ·exact .inr (.inr (.inr ⟨rfl,h⟩))
  ·exact .inr (.inr (.inl h))
theorem c2p(a b:ByteArray):UI a b=true\/a=b\/UI b a=true:=by
 unfold UI
 rcases c1p a.toList b.toList with h|h|h
 ·exact .inl h
 ·rw[b5u,b5u]at h;exact .inr (.inl (by cases a;cases b;congr;exact Array.ext' h))
 ·exact .inr (.inr h)
theorem c3p{a b c:ByteArray}(h1:UI a b=true)(h2:UI b c=true):UI a c=true:=d6c h1 h2
theorem c4p{a b:ByteArray}(h1:UI a b=true):UI b a=false:=by
 cases h:UI b a with
 |false=>rfl
 |true=>have:=c3p h1 h;rw[b2u]at this;cases this
theorem c5p:Xi WO where
 W0:=fun a b=>by
  rw[d7c];unfold WO
  rcases c2p a b with h|rfl|h
  ·have ZS:b≠a:=by rintro rfl;rw[b2u]at h;cases h
   simp[h,c4p h,ZS]
  ·simp[b2u]
  ·simp[h,c4p h]
 trans:=fun a b d h1 h2=>by
  have le:∀x y:ByteArray,WO x y<=0↔UI x y=true\/x=y:=by
   intro x y;unfold WO
   by_cases h:UI x y=true
   ·simp[h]
   ·by_cases h':x=y
    ·subst h';simp[b2u]
    ·simp[h,h']
  rw[le]at*
  rcases h1 with h1|rfl
  ·rcases h2 with h2|rfl
   ·exact .inl (c3p h1 h2)
   ·exact .inl h1
  ·exact h2
theorem c6p:Xi RM where
 W0:=fun a b=>by unfold RM;split<;>split<;>(try split)<;>omega
 trans:=fun a b d h1 h2=>by
  have le:∀x y:Int,RM x y<=0↔x<=y:=by
   intro x y;unfold RM
   by_cases h:x<y
   ·rw[if_pos h];omega
   ·by_cases h':y<x
    ·rw[if_neg h,if_pos h'];omega
    ·rw[if_neg h,if_neg h'];omega
  rw[le]at*;omega
theorem c7p:Xi Vl.cmp where
 W0:=fun a b=>by
  have h1:=c5p.W0 a.s b.s;have h2:=c6p.W0 a.n b.n;unfold Vl.cmp
  cases a.text<;>cases b.text<;>simp[h1,h2]
 trans:=fun a b d=>by
  have h1:=c5p.trans a.s b.s d.s;have h2:=c6p.trans a.n b.n d.n;unfold Vl.cmp
  cases a.text<;>cases b.text<;>cases d.text<;>simp<;>assumption
theorem c8p{a b:Vl}(ha:a.right=true)(hb:b.right=true)(h:a.cmp b=0):a=b:=by
 rw[Vl.eq_iff];unfold Vl.right at ha hb;unfold Vl.cmp at h
 cases hta:a.text<;>cases htb:b.text<;>simp only[hta,htb,if_true,if_false,Bool.false_eq_true]at h ha hb
 ·unfold RM at h;refine⟨rfl,by split at h<;>(try split at h)<;>omega,?_⟩
  simp_all
 ·omega
 ·omega
 ·unfold WO at h
  have hs:a.s=b.s:=by
   split at h
   ·omega
   ·split at h
    ·assumption
    ·omega
  simp_all
def Eg.N3(a b:Eg):Int:=
 if IntKind.i64.wrap (a.ZX-b.ZX)≠0 then IntKind.i64.wrap (a.ZX-b.ZX)
 else if IntKind.i64.wrap (a.to-b.to)≠0 then IntKind.i64.wrap (a.to-b.to)
 else if IntKind.i64.wrap (a.kind-b.kind)≠0 then IntKind.i64.wrap (a.kind-b.kind)
 else if IntKind.i64.wrap (a.table-b.table)≠0 then IntKind.i64.wrap (a.table-b.table)
 else a.key.cmp b.key
def Eg.cmp(a b:Eg):Int:=if a.N3 b≠0\/a.ZN=b.ZN then a.N3 b else if b.ZN=true then-1 else 1
def Eg.N2:Eg->Eg->Int:=RF (fun a b=>a.ZX-b.ZX) (RF (fun a b=>a.to-b.to) (RF (fun a b=>a.kind-b.kind) (RF (fun a b=>a.table-b.table)
 (RF (fun a b=>a.key.cmp b.key) fun a b=>(if a.ZN=true then 1 else 0)-(if b.ZN=true then 1 else 0)))))
theorem DW:Xi Eg.N2:=(Xi.sub Eg.ZX).lex ((Xi.sub Eg.to).lex ((Xi.sub Eg.kind).lex ((Xi.sub Eg.table).lex ((c7p.of Eg.key).lex (Xi.sub fun e:Eg=>if e.ZN=true then 1 else 0)))))
def Eg.lss(a b:Eg):Bool:=
 if a.ZX≠b.ZX then decide (a.ZX<b.ZX)else if a.to≠b.to then decide (a.to<b.to)else if a.kind≠b.kind then decide (a.kind<b.kind)
 else if a.table≠b.table then decide (a.table<b.table)else if a.key.cmp b.key≠0 then decide (a.key.cmp b.key<0)else !a.ZN&&b.ZN
theorem c0q(a b:Eg):a.lss b=true↔a.N2 b<0:=by
 unfold Eg.lss Eg.N2 RF
 by_cases h1:a.ZX=b.ZX
 ·by_cases h2:a.to=b.to
  ·by_cases h3:a.kind=b.kind
   ·by_cases h4:a.table=b.table
    ·by_cases h5:a.key.cmp b.key=0
     ·simp only[h1,h2,h3,h4,h5]
      cases a.ZN<;>cases b.ZN<;>simp
     ·simp[h1,h2,h3,h4,h5]
    ·have:a.table-b.table≠0:=by omega
     simp only[h1,h2,h3,ne_eq,not_true,if_false,h4,not_false_eq_true,if_true,this,c8Z,decide_eq_true_eq];omega
   ·have:a.kind-b.kind≠0:=by omega
    simp only[h1,h2,ne_eq,not_true,if_false,h3,not_false_eq_true,if_true,this,c8Z,decide_eq_true_eq];omega
  ·have:a.to-b.to≠0:=by omega
   simp only[h1,ne_eq,not_true,if_false,h2,not_false_eq_true,if_true,this,c8Z,decide_eq_true_eq];omega
 ·have:a.ZX-b.ZX≠0:=by omega
  simp only[ne_eq,h1,not_false_eq_true,if_true,this,decide_eq_true_eq];omega
theorem c1q{a b c:Eg}(h1:a.lss b=true)(h2:b.lss c=true):a.lss c=true:=by
 rw[c0q]at*;have t1:=DW.trans a b c (by omega) (by omega);have t2:=DW.trans b c a (by omega);have:=DW.W0 a c;have:=DW.W0 c a;have:=DW.W0 a b;have:=DW.W0 b a;omega
theorem c2q{a b:Eg}(h:a.lss b=true):b.lss a=false:=by
 rw[<-c1h];intro h2;rw[c0q]at*;have:=DW.W0 a b;omega
theorem c3q(a:Eg):a.lss a=false:=by
 rw[<-c1h];intro h;have:=c2q h;rw[h]at this;cases this
def Eg.Rt(e:Eg):Prop:=e.key.right=true
theorem c4q{a b:Eg}(ha:a.Rt)(hb:b.Rt)(h1:a.lss b=false)(h2:b.lss a=false):a=b:=by
 rw[<-c1h,c0q]at h1 h2;have h3:=DW.W0 a b;have h4:=DW.W0 b a
 have h0:a.N2 b=0:=by omega
 unfold Eg.N2 RF at h0;rw[Eg.eq_iff]
 by_cases e1:a.ZX-b.ZX=0
 ·by_cases e2:a.to-b.to=0
  ·by_cases e3:a.kind-b.kind=0
   ·by_cases e4:a.table-b.table=0
    ·by_cases e5:a.key.cmp b.key=0
     ·simp only[e1,e2,e3,e4,e5,ne_eq,not_true,if_false]at h0;refine⟨by omega,by omega,by omega,by omega,c8p ha hb e5,?_⟩;revert h0
      cases a.ZN<;>cases b.ZN<;>simp
     ·simp only[e1,e2,e3,e4,ne_eq,not_true,if_false,e5,not_false_eq_true,if_true]at h0
    ·simp only[e1,e2,e3,ne_eq,not_true,if_false,e4,not_false_eq_true,if_true]at h0
   ·simp only[e1,e2,ne_eq,not_true,if_false,e3,not_false_eq_true,if_true]at h0
  ·simp only[e1,ne_eq,not_true,if_false,e2,not_false_eq_true,if_true]at h0
 ·simp only[ne_eq,e1,not_false_eq_true,if_true]at h0
def RE(l:List Eg):Prop:=l.Pairwise fun a b=>a.lss b=true
theorem RE.nodup{l:List Eg}(h:RE l):l.Nodup:=h.imp fun {a b} Nv e=>by subst e;rw[c3q]at Nv;cases Nv
theorem c5q{l r:List Eg}(hl:RE l)(hr:RE r)(h:∀e,e∈l↔e∈r):l=r:=
 d7T (le:=fun a b:Eg=>a.lss b=true) (fun a b _ _ h1 h2=>by have:=c2q h1;rw[h2]at this;cases this) hl hr ((c1S hl.nodup hr.nodup).2 h)
def Vh(e:Eg):List Eg->List Eg
 | []=>[e]
 |x::r=>if x.lss e=true then x::Vh e r else if x=e then x::r else e::x::r
theorem c6q{e m:Eg}:∀{l:List Eg},m∈Vh e l↔m=e\/m∈l
 | []=>by simp[Vh]
 |x::r=>by
  unfold Vh;split
  ·rw[a2E,c6q,a2E];grind
  ·split
   ·rename_i h;subst h;rw[a2E];grind
   ·rw[a2E]
theorem c7q{e:Eg}(he:e.Rt):∀{l:List Eg},(∀x,x∈l->x.Rt)->RE l->RE (Vh e l)
 | [],_,_=>List.pairwise_singleton _ _
 |x::r,hD,h=>by
  obtain⟨h1,h2⟩:=b6P.1 h;unfold Vh;split
  ·rename_i hx;refine b6P.2 ⟨fun y hy=>?_,c7q he (fun y hy=>hD y (a2C _ hy)) h2⟩
   rcases c6q.1 hy with rfl|hy
   ·exact hx
   ·exact h1 y hy
  ·rename_i hx;split
   ·exact h
   ·rename_i ZS
    have hex:e.lss x=true:=by
     cases hc:e.lss x with
     |true=>rfl
     |false=>exact absurd (c4q (hD x a8C) he (by simpa using hx) hc) ZS
    refine b6P.2 ⟨fun y hy=>?_,h⟩
    rcases a2E.1 hy with rfl|hy
    ·exact hex
    ·exact c1q hex (h1 y hy)
def YT(l:List Eg)(e:Eg):List Eg:=if e.ZX=e.to then l else Vh e l
theorem c8q{m:Eg}:∀{es l:List Eg},m∈es.foldl YT l↔m∈l\/(m∈es/\m.ZX≠m.to)
 | [],l=>by simp
 |e::es,l=>by
  rw[b0k,c8q,a2E];unfold YT;split
  ·rename_i h;grind
  ·rename_i h;rw[c6q];grind
theorem c9q:∀{es l:List Eg},(∀x,x∈l->x.Rt)->(∀x,x∈es->x.Rt)->RE l->RE (es.foldl YT l)
 | [],_,_,_,h=>h
 |e::es,l,hl,he,h=>by
  rw[b0k];have h0:=he e a8C;refine c9q ?_ (fun x hx=>he x (a2C _ hx)) ?_
  ·intro x hx;unfold YT at hx;split at hx
   ·exact hl x hx
   ·rcases c6q.1 hx with rfl|hx
    ·exact h0
    ·exact hl x hx
  ·unfold YT;split
   ·exact h
   ·exact c7q h0 hl h
theorem om:∀{es l:List Eg},(es.foldl YT l).length<=l.length+es.length
 | [],l=>by simp
 |e::es,l=>by
  rw[b0k];have h1:=om (es:=es) (l:=YT l e)
  have h2:(YT l e).length<=l.length+1:=by
   unfold YT;split
   ·omega
   ·clear h1
    induction l with
    |nil=>simp[Vh]
    |cons x r ih=>
     unfold Vh;split
     ·simpa using ih
     ·split<;>simp
  simp only[a3O];omega
theorem c1r{e:Eg}:∀{l:List Eg} {k:Nat},k<=l.length->(∀j,j<k->∀x,l[j]? =some x->x.lss e=true)->(∀x,l[k]? =some x->x.lss e=false)->
 Vh e l=if l[k]? =some e then l else l.take k++e::l.drop k
 | [],k,hk,_,_=>by
  have:k=0:=by simpa using hk
  subst this;simp[Vh]
 |x::r,0,_,_,h2=>by
  have:=h2 x rfl;unfold Vh;rw[if_neg (by rw[this];simp)];simp
 |x::r,k+1,hk,h1,h2=>by
  have:=h1 0 (by omega) x rfl;unfold Vh;rw[if_pos this,c1r (k:=k) (by simpa using hk) (fun j hj y hy=>h1 (j+1) (by omega) y (by simpa using hy)) (fun y hy=>h2 y (by simpa using hy))];simp only[a2I,List.take_succ_cons,List.drop_succ_cons]
  split<;>rfl
structure Eg.D (e:Eg):Prop where
 rt:e.Rt
 ZX:0<=e.ZX/\e.ZX<2^63
 to:0<=e.to/\e.to<2^63
 kind:0<=e.kind/\e.kind<2^63
 table:0<=e.table/\e.table<2^63
theorem f4k{a b:Eg}(ha:a.D)(hb:b.D):a.cmp b=a.N2 b:=by
 obtain⟨_,a1,a2,a3,a4⟩:=ha;obtain⟨_,b1,b2,b3,b4⟩:=hb;have w1:=Zo (n:=a.ZX-b.ZX) (by omega);have w2:=Zo (n:=a.to-b.to) (by omega);have w3:=Zo (n:=a.kind-b.kind) (by omega);have w4:=Zo (n:=a.table-b.table) (by omega);unfold Eg.cmp Eg.N3 Eg.N2 RF;rw[w1,w2,w3,w4]
 by_cases e1:a.ZX-b.ZX=0
 ·by_cases e2:a.to-b.to=0
  ·by_cases e3:a.kind-b.kind=0
   ·by_cases e4:a.table-b.table=0
    ·by_cases e5:a.key.cmp b.key=0
     ·simp only[e1,e2,e3,e4,e5,ne_eq,not_true,if_false,false_or]
      cases a.ZN<;>cases b.ZN<;>simp
     ·simp only[e1,e2,e3,e4,e5,ne_eq,not_true,if_false,not_false_eq_true,true_or,if_true]
    ·simp only[e1,e2,e3,e4,ne_eq,not_true,if_false,not_false_eq_true,true_or,if_true]
   ·simp only[e1,e2,e3,ne_eq,not_true,if_false,not_false_eq_true,true_or,if_true]
  ·simp only[e1,e2,ne_eq,not_true,if_false,not_false_eq_true,true_or,if_true]
 ·simp only[e1,ne_eq,not_false_eq_true,true_or,if_true]
def Wc{α:Type}(p:α->Bool)(l:List α):Option α:=l.foldl (fun s e=>if p e=true then some e else s) none
theorem NJ{α:Type}(p:α->Bool)(l:List α)(e:α):Wc p (l++[e])=if p e=true then some e else Wc p l:=by
 unfold Wc;rw[a3U];rfl
theorem d0n{α:Type}(p:α->Bool):Wc p []=none:=rfl
theorem d1n{α:Type}(p:α->Bool)(l:List α):Wc p l=l.reverse.find? p:=by
 suffices h:∀r:List α,Wc p r.reverse=r.find? p by
  have:=h l.reverse;rwa [d4h]at this
 intro r
 induction r with
 |nil=>rfl
 |cons a r ih=>
  rw[d9p,NJ,List.find?_cons,ih]
  cases p a<;>rfl
theorem d2n{α:Type}{p:α->Bool}{l:List α}:Wc p l=none↔∀e,e∈l->p e=false:=by
 rw[d1n,b4w];simp only[d4v,c1h]
theorem MF{α:Type}{p:α->Bool}{l:List α}{e:α}(h:Wc p l=some e):e∈l/\p e=true:=by
 rw[d1n]at h;exact⟨d4v.1 (a8V h),d1C h⟩
abbrev skL:Sk:=(false,[.i .i64],false)
abbrev rj:Sk:=(true,[.i .i64, .b, .i .i64, .s, .i .i64, .i .i64],false)
abbrev skC:Sk:=(true,[.i .i64, .b, .i .i64, .s],false)
def Ev.Rk(t:Int)(e:Ev):Bool:=decide (e.kind=1)&&decide (e.txn=t)
def Ev.Tl(txn table:Int)(k:Vl)(m:Int)(e:Ev):Bool:=e.Qt txn table k&&decide (e.n=m)
def Ins.SI(table:Int)(k:Vl)(o:Ins):Bool:=decide (o.table=table)&&decide (o.key=k)
def VI(l:List Vs):List (List IV):=l.map Vs.cells
@[simp]theorem f8B(l:List Vs):(VI l).length=l.length:=by simp[VI]
@[simp]theorem d4n(l:List Vs)(i:Nat):(VI l)[i]? =(l[i]?).map Vs.cells:=by simp[VI]
def Lu(es:List Ev):List Value->Option (List IV)
 | [.int .i64 t]=>(Wc (Ev.Rk t) es).map fun e=>[ci e.level]
 | _=>none
def Lt(es:List Ev):List Value->Option (List IV)
 | [.int .i64 table, .bool t, .int .i64 n, .string s, .int .i64 txn, .int .i64 m]=>(Wc (Ev.Tl txn table ⟨t,n,s⟩ m) es).map fun e=>[.Z6 3 (YM e.row)]
 | _=>none
def MR(es:List Ev):List Value->Option (List IV)
 | [.int .i64 table, .bool t, .int .i64 n, .string s, .int .i64 txn, .int .i64 m]=>if m=0 then(Wc (Ev.Qt txn table ⟨t,n,s⟩) es).map fun e=>[ci e.n]else none
 | _=>none
def GA(es:List Ev)(txn table:Int)(k:Vl):Int:=((Wc (Ev.Qt txn table k) es).map Ev.n).getD 0
def R9(es:List Ev)(o:Ins):List Vs:=⟨0,0⟩::o.ZW.map fun txn=>⟨txn,GA es txn o.table o.key⟩
def EV(es:List Ev)(os:List Ins):List Value->Option (List IV)
 | [.int .i64 table, .bool t, .int .i64 n, .string s]=>(Wc (Ins.SI table ⟨t,n,s⟩) os).map fun o=>[.Z6 2 (VI (R9 es o))]
 | _=>none
theorem d6n:Lu []=fun _=>none:=by funext q;unfold Lu;split<;>rfl
theorem d7n:Lt []=fun _=>none:=by funext q;unfold Lt;split<;>rfl
theorem d8n:MR []=fun _=>none:=by
 funext q;unfold MR;split
 ·split<;>rfl
 ·rfl
theorem d9n(es:List Ev):EV es []=fun _=>none:=by funext q;unfold EV;split<;>rfl
theorem d0o{es:List Ev}{e:Ev}(hk:e.kind=1):ZG (Lu es) [.int .i64 e.txn] (some [ci e.level])=Lu (es++[e]):=by
 funext q
 simp only[ZG];split
 ·rename_i h;subst h;simp[Lu,NJ,Ev.Rk,hk]
 ·rename_i ZS;unfold Lu;split
  ·rename_i t;rw[NJ,if_neg];simp only[Ev.Rk,a4C,decide_eq_true_eq];rintro⟨_,rfl⟩;exact ZS rfl
  ·rfl
theorem d1o{es:List Ev}{e:Ev}(hk:e.kind≠1):Lu (es++[e])=Lu es:=by
 funext q
 unfold Lu;split
 ·rw[NJ,if_neg];simp[Ev.Rk,hk]
 ·rfl
theorem d2o{e:Ev}(hk:e.kind=3):e.Qt e.txn e.table e.key=true:=Ev.Yw.2 ⟨hk,rfl,rfl,rfl,rfl,rfl⟩
theorem d3o{es:List Ev}{e:Ev}(hk:e.kind=3):
 ZG (Lt es) [.int .i64 e.table, .bool e.key.text, .int .i64 e.key.n, .string e.key.s, .int .i64 e.txn, .int .i64 e.n] (some [.Z6 3 (YM e.row)])=Lt (es++[e]):=by
 funext q
 simp only[ZG];split
 ·rename_i h;subst h
  have:e.Tl e.txn e.table e.key e.n=true:=by unfold Ev.Tl;rw[d2o hk];simp
  simp[Lt,NJ,this]
 ·rename_i ZS;unfold Lt;split
  ·rename_i table t n s txn m;rw[NJ,if_neg];simp only[Ev.Tl,a4C,decide_eq_true_eq,Ev.Yw];rintro⟨⟨_,h1,h2,h3,h4,h5⟩,h6⟩;subst h1 h2 h3 h4 h5 h6;exact ZS rfl
  ·rfl
theorem d4o{es:List Ev}{e:Ev}(hk:e.kind≠3):Lt (es++[e])=Lt es:=by
 funext q
 unfold Lt;split
 ·rw[NJ,if_neg];simp only[Ev.Tl,a4C,decide_eq_true_eq,Ev.Yw]
  exact fun h=>hk h.1.1
 ·rfl
theorem d5o{es:List Ev}{e:Ev}(hk:e.kind=3):
 ZG (MR es) [.int .i64 e.table, .bool e.key.text, .int .i64 e.key.n, .string e.key.s, .int .i64 e.txn, .int .i64 0] (some [ci e.n])=MR (es++[e]):=by
 funext q
 simp only[ZG];split
 ·rename_i h;subst h;have:=d2o hk;simp[MR,NJ,this]
 ·rename_i ZS;unfold MR;split
  ·rename_i table t n s txn m
   by_cases hm:m=0
   ·rw[if_pos hm,if_pos hm,NJ,if_neg];simp only[Ev.Yw];rintro⟨_,h1,h2,h3,h4,h5⟩;subst h1 h2 h3 h4 h5 hm;exact ZS rfl
   ·rw[if_neg hm,if_neg hm]
  ·rfl
theorem d6o{es:List Ev}{e:Ev}(hk:e.kind≠3):MR (es++[e])=MR es:=by
 funext q
 unfold MR;split
 ·split
  ·rw[NJ,if_neg];simp only[Ev.Yw]
   exact fun h=>hk h.1
  ·rfl
 ·rfl
theorem d7o(es:List Ev)(os:List Ins)(o:Ins):ZG (EV es os) [.int .i64 o.table, .bool o.key.text, .int .i64 o.key.n, .string o.key.s] (some [.Z6 2 (VI (R9 es o))])=EV es (os++[o]):=by
 funext q
 simp only[ZG];split
 ·rename_i h;subst h;simp[EV,NJ,Ins.SI]
 ·rename_i ZS;unfold EV;split
  ·rename_i table t n s;rw[NJ,if_neg];simp only[Ins.SI,a4C,decide_eq_true_eq,Vl.eq_iff];rintro⟨h1,h2,h3,h4⟩;subst h1 h2 h3 h4;exact ZS rfl
  ·rfl
@[simp]theorem f8W(es:List Ev)(txn table:Int)(t:Bool)(n:Int)(s:ByteArray):
 N9 [.iv (.v (.int .i64 0))] false false (MR es [.int .i64 table, .bool t, .int .i64 n, .string s, .int .i64 txn, .int .i64 0])=vi (GA es txn table ⟨t,n,s⟩):=by
 simp only[MR,if_true,GA]
 cases Wc (Ev.Qt txn table ⟨t,n,s⟩) es<;>rfl
def XO(es:List Ev):List Int:=(es.filter fun e=>decide (e.kind=5)).map Ev.txn
theorem d9o:XO []=[]:=rfl
theorem d0p(es:List Ev)(e:Ev):XO (es++[e])=XO es++if e.kind=5 then[e.txn]else[]:=by
 unfold XO;rw[b3o,a6M]
 congr 1
 by_cases h:e.kind=5<;>simp[h]
theorem d1p(es:List Ev):(XO es).length<=es.length:=by
 unfold XO;rw[a6S];exact b9b _ _
theorem c3n{α:Type}{p:α->Bool}{l:List α}(h:∀(i j:Nat) (a b:α),l[i]? =some a->l[j]? =some b->p a=true->p b=true->i=j):Wc p l=l.find? p:=by
 cases hf:l.find? p with
 |none=>
  rw[b4w]at hf;rw[d2n];intro e he;simpa using hf e he
 |some a=>
  have ha:=a8V hf;have hpa:=d1C hf
  cases hl:Wc p l with
  |none=>rw[d2n]at hl;rw[hl a ha]at hpa;cases hpa
  |some b=>
   obtain⟨hb,hpb⟩:=MF hl;obtain⟨i,hi⟩:=a9B ha;obtain⟨j,hj⟩:=a9B hb;have:=h i j a b hi hj hpa hpb;subst this;rw[hi]at hj;exact hj.symm
section
variable{h:Hs}
theorem IE(hw:YP h){i:Nat}{e:Ev}(he:h.events[i]? =some e):Nk h (h.events.take i) e/\DZ h e:=hw.2.1 i (a7y.1 he).1 e he
theorem c5n(hw:YP h){i:Nat}{o:Ins}(ho:h.order[i]? =some o):GQ h i o:=hw.2.2 i (a7y.1 ho).1 o ho
theorem c6n(hw:YP h){i:Nat}{e:Ev}(he:h.events[i]? =some e)(hk:e.kind=3):Ig h (h.events.take i) e:=(IE hw he).1.2.2.1 hk
theorem c7n{es:List Ev}{i j:Nat}(Xo:i<=j)(txn table:Int)(k:Vl):Yo (es.take i) txn table k<=Yo (es.take j) txn table k:=by
 unfold Yo;exact((List.take_sublist_take_left Xo).filter _).length_le
theorem c8n{es:List Ev}{i j:Nat}{e:Ev}(he:es[i]? =some e)(Xo:i<j){txn table:Int}{k:Vl}(hw:e.Qt txn table k=true):Yo (es.take i) txn table k<Yo (es.take j) txn table k:=by
 have h1:=d6P he txn table k;rw[if_pos hw]at h1;have h2:=c7n (es:=es) (i:=i+1) (j:=j) Xo txn table k;omega
theorem qw{e:Ev}{txn table:Int}{k:Vl}(h:e.Qt txn table k=true):e.kind=3/\e.txn=txn/\e.table=table/\e.key=k:=by
 obtain⟨h1,h2,h3,h4,h5,h6⟩:=Ev.Yw.1 h;exact⟨h1,h2,h3,Vl.eq_iff.2 ⟨h4,h5,h6⟩⟩
theorem c0o(hw:YP h){i:Nat}{e:Ev}(he:h.events[i]? =some e){txn table:Int}{k:Vl}(hk:e.Qt txn table k=true):e.n=Yo (h.events.take i) txn table k+1:=by
 obtain⟨h1,rfl,rfl,rfl⟩:=qw hk;exact(c6n hw he h1).2.1
theorem c1o{e:Ev}{txn table:Int}{k:Vl}{m:Int}:e.Tl txn table k m=true↔e.Qt txn table k=true/\e.n=m:=by
 unfold Ev.Tl;rw[a4C,decide_eq_true_eq]
theorem c2o(hw:YP h){txn table:Int}{k:Vl}{m:Int}:∀(i j:Nat) (a b:Ev),h.events[i]? =some a->h.events[j]? =some b->a.Tl txn table k m=true->b.Tl txn table k m=true->i=j:=by
 intro i j a b hi hj ha hb;rw[c1o]at ha hb;have h1:=c0o hw hi ha.1;have h2:=c0o hw hj hb.1
 rcases c0y i j with g|g|g
 ·have:=c8n hi g ha.1;omega
 ·exact g
 ·have:=c8n hj g hb.1;omega
theorem c3o(hw:YP h)(txn table:Int)(k:Vl):∀i,i<=h.events.length->GA (h.events.take i) txn table k=Yo (h.events.take i) txn table k:=by
 intro i
 induction i with
 |zero=>intro _;simp[GA,d0n,Yo]
 |succ i ih=>
  intro hi;obtain⟨e,he⟩:=Zw (l:=h.events) (i:=i) (by omega);have h1:=d6P he txn table k
  have VW:h.events.take (i+1)=h.events.take i++[e]:=by rw[a1J,he];rfl
  rw[h1];unfold GA;rw[VW,NJ]
  by_cases hk:e.Qt txn table k=true
  ·rw[if_pos hk,if_pos hk];have:=c0o hw he hk;simp[this]
  ·rw[if_neg hk,if_neg hk];have:=ih (by omega);unfold GA at this;rw[this];simp
theorem c4o(hw:YP h)(txn table:Int)(k:Vl){m:Int}:∀i,i<=h.events.length->1<=m->m<=Yo (h.events.take i) txn table k->∃j e,j<i/\h.events[j]? =some e/\e.Tl txn table k m=true:=by
 intro i
 induction i with
 |zero=>intro _ h1 h2;simp[Yo]at h2;omega
 |succ i ih=>
  intro hi h1 h2;obtain⟨e,he⟩:=Zw (l:=h.events) (i:=i) (by omega);have h3:=d6P he txn table k
  by_cases hm:m<=Yo (h.events.take i) txn table k
  ·obtain⟨j,x,g1,g2,g3⟩:=ih (by omega) h1 hm;exact⟨j,x,by omega,g2,g3⟩
  ·by_cases hk:e.Qt txn table k=true
   ·rw[if_pos hk]at h3;have:=c0o hw he hk;exact⟨i,e,by omega,he,c1o.2 ⟨hk,by omega⟩⟩
   ·rw[if_neg hk]at h3;omega
theorem c5o(hw:YP h){txn table:Int}{k:Vl}{m:Int}{e:Ev}(he:e∈h.events)(hn:e.Tl txn table k m=true):1<=m/\m<=Yo h.events txn table k:=by
 obtain⟨i,hi⟩:=a9B he;obtain⟨h1,rfl⟩:=c1o.1 hn;have h2:=c0o hw hi h1;have h3:=c8n hi (j:=h.events.length) (a7y.1 hi).1 h1;rw[a7I]at h3;omega
theorem c6o(hw:YP h)(txn table:Int)(k:Vl):GA h.events txn table k=Yo h.events txn table k:=by
 have:=c3o hw txn table k h.events.length (a8F _);rwa [a7I]at this
theorem c7o(hw:YP h)(txn table:Int)(k:Vl)(m:Int):Wc (Ev.Tl txn table k m) h.events=h.events.find? (Ev.Tl txn table k m):=c3n (c2o hw)
theorem c8o(hw:YP h){txn table:Int}{k:Vl}{m:Int}:(Wc (Ev.Tl txn table k m) h.events).isSome=true↔1<=m/\m<=Yo h.events txn table k:=by
 constructor
 ·intro hs;obtain⟨e,he⟩:=c7w.1 hs;obtain⟨h1,h2⟩:=MF he;exact c5o hw h1 h2
 ·rintro⟨h1,h2⟩;obtain⟨j,e,g1,g2,g3⟩:=c4o hw txn table k h.events.length (a8F _) h1 (by rw[a7I];exact h2)
  cases hl:Wc (Ev.Tl txn table k m) h.events with
  |some x=>rfl
  |none=>rw[d2n]at hl;rw[hl e (a8y g2)]at g3;cases g3
theorem c9o{v:Vl}(h:v.right=true):v.s.size<2^63:=by
 unfold Vl.right at h;split at h
 ·simp only[a4C,decide_eq_true_eq]at h;omega
 ·simp only[decide_eq_true_eq]at h;rw[h];decide
theorem c0p(hw:YP h){e:Ev}(he:e∈h.events)(hk:e.kind=3):e.row.length<2^40/\∀x,x∈e.row->x.s.size<2^63:=by
 obtain⟨i,hi⟩:=a9B he
 rcases(c6n hw hi hk).2.2 with h1|⟨t,h1,h2,_⟩
 ·rw[h1];simp
 ·obtain⟨f1,f2,f3⟩:=h2;have:t.length<=4:=f1.2;refine⟨by omega,fun x hx=>?_⟩;obtain⟨j,hj⟩:=a9B hx;have RO:=(a7y.1 hj).1;obtain⟨c,hc⟩:=Zw (l:=t) (i:=j) (by omega);exact c9o (f3 j RO x c hj hc).2
end
theorem b7s{xs:List (List IV)}(hl:xs.length<2^40):ZU prog false L4 [.iv (.Z6 1 xs)] [] (.iv (.Z6 1 xs)) []:=by
 refine e6p [2,5] pJ (by simp) (by decide) ?_
 by_cases h:xs=[]
 ·subst h;simp-dsimp[Qc]
 ·simp-dsimp[Qc,h];omega
theorem b8s{xs:List (List IV)}(hl:xs.length<2^40):ZU prog false HM [.iv (.Z6 3 xs)] [] (.iv (.Z6 3 xs)) []:=by
 refine e6p [2,5] pI (by simp) (by decide) ?_
 by_cases h:xs=[]
 ·subst h;simp-dsimp[a3e]
 ·simp-dsimp[a3e,h];omega
theorem b9s{xs:List (List IV)}(hl:xs.length<2^40):ZU prog false Yb [.iv (.Z6 3 xs)] [] (.iv (.Z6 3 xs)) []:=by
 refine e6p [2] pH (by simp) (by decide) ?_;simp-dsimp[a0c];refine TB (b8s hl) rfl (by simp) (by simp) (by simp) (by simp) (by simp) (by simp) (by simp) ?_;simp-dsimp
def Qp(o c d:Int):Bool:=
 if o=3 then c==0 else if o=4 then c != 0 else if o=5 then decide (c<0)else if o=6 then decide (c<=0)else if o=7 then decide (0<c)else if o=8 then decide (0<=c)else decide (0<=c)&&decide (d<=0)
def Pd.TP(p:Pd)(r:List Vl):Bool:=if p.col<0\/(r.length:Int)<=p.col then false else match r[p.col.toNat]? with
 |none=>false
 |some x=>Qp p.op (x.cmp p.v) (x.cmp p.w)
theorem c8V{p:Pd}{r:List Vl}(h:p.col<0\/(r.length:Int)<=p.col):p.TP r=false:=by unfold Pd.TP;rw[if_pos h]
theorem c9V{p:Pd}{r:List Vl}{k:Nat}{x:Vl}(hk:p.col=k)(hx:r[k]? =some x):p.TP r=Qp p.op (x.cmp p.v) (x.cmp p.w):=by
 have:=(a7y.1 hx).1;unfold Pd.TP;rw[if_neg (by omega),hk,c2z,hx]
theorem c0W{α:Type}{p:Pd}{r:List α}(h1:¬p.col<0)(h2:¬(r.length:Int)<=p.col):∃(k:Nat) (x:α),p.col=k/\r[k]? =some x:=by
 obtain⟨x,hx⟩:=Zw (l:=r) (i:=p.col.toNat) (by omega);exact⟨p.col.toNat,x,by omega,hx⟩
theorem c1W(
 p:Pd) (r:List Vl) (hr:r.length<2^63):ZU prog true HC [p.av, .iv (.Z6 3 (YM r))] [] (vb (p.TP r)) []:=by
 refine YD e8s (by simp) (by decide) rfl ?_
 by_cases h1:p.col<0
 ·simp-dsimp[c1N,Pd.Z4,h1,c8V (.inl h1)]
 ·by_cases h2:(r.length:Int)<=p.col
  ·simp-dsimp[c1N,Pd.Z4,h1,h2,c8V (.inr h2)]
  ·obtain⟨k,x,hk,hx⟩:=c0W h1 h2
   have XL:¬(r.length:Int)<=k:=by omega
   have RH:¬(k:Int)<0:=by omega
   rw[c9V hk hx];simp-dsimp[c1N,Pd.Z4,hk,XL,RH,hx,Zc];refine Zu (b3u x p.v) (by simp) (by simp) ?_;generalize x.cmp p.v=c
   by_cases o3:p.op=3
   ·simp-dsimp[o3,Qp]
   ·by_cases o4:p.op=4
    ·simp-dsimp[o4,Qp]
    ·by_cases o5:p.op=5
     ·simp-dsimp[o5,Qp]
     ·by_cases o6:p.op=6
      ·simp-dsimp[o6,Qp]
      ·by_cases o7:p.op=7
       ·simp-dsimp[o7,Qp]
       ·by_cases o8:p.op=8
        ·simp-dsimp[o8,Qp]
        ·by_cases hc:0<=c
         ·simp-dsimp[o3,o4,o5,o6,o7,o8,Qp,hc,hx,Zc];refine Zu (b3u x p.w) (by simp) (by simp) ?_;simp-dsimp[o3,o4,o5,o6,o7,o8,Qp,hc]
         ·simp-dsimp[o3,o4,o5,o6,o7,o8,Qp,hc]
theorem c2W(
 p:Pd) (r:List Vl) (hr:r.length<2^63) (hv:∀x,x∈r->x.s.size<2^63):ZU prog true HA [p.av, .iv (.Z6 3 (YM r))] [] (vb (p.TP r)) []:=by
 refine YD e6A (by simp) (by decide) rfl ?_
 by_cases h1:p.col<0
 ·simp-dsimp[c4N,Pd.Z4,h1,c8V (.inl h1)]
 ·by_cases h2:(r.length:Int)<=p.col
  ·simp-dsimp[c4N,Pd.Z4,h1,h2,c8V (.inr h2)]
  ·obtain⟨k,x,hk,hx⟩:=c0W h1 h2
   have XL:¬(r.length:Int)<=k:=by omega
   have RH:¬(k:Int)<0:=by omega
   have hs:=hv x (a8y hx);rw[c9V hk hx];simp-dsimp[c4N,Pd.Z4,hk,XL,RH,hx,Zc];refine Zu (b0v x p.v hs) (by simp) (by simp) ?_;generalize x.cmp p.v=c
   by_cases o3:p.op=3
   ·simp-dsimp[o3,Qp]
   ·by_cases o4:p.op=4
    ·simp-dsimp[o4,Qp]
    ·by_cases o5:p.op=5
     ·simp-dsimp[o5,Qp]
     ·by_cases o6:p.op=6
      ·simp-dsimp[o6,Qp]
      ·by_cases o7:p.op=7
       ·simp-dsimp[o7,Qp]
       ·by_cases o8:p.op=8
        ·simp-dsimp[o8,Qp]
        ·by_cases hc:0<=c
         ·simp-dsimp[o3,o4,o5,o6,o7,o8,Qp,hc];refine Zu (b0v x p.w hs) (by simp) (by simp) ?_;simp-dsimp[o3,o4,o5,o6,o7,o8,Qp,hc]
         ·simp-dsimp[o3,o4,o5,o6,o7,o8,Qp,hc]
mutual
def Pd.holds(r:List Vl):Pd->Bool
 | .mk o c v w l=>if 3<=o/\o<=9 then(Pd.mk o c v w l).TP r else if o=1 then true else if o=10 then !((Pd.Up r l).headD false)else if o=11 then(Pd.Up r l).all id else if o=12 then(Pd.Up r l).any id else false
def Pd.Up(r:List Vl):List Pd->List Bool
 | []=>[]
 |p::q=>p.holds r::Pd.Up r q
end
theorem Pd.RB(r:List Vl):∀l:List Pd,Pd.Up r l=l.map (Pd.holds r)
 | []=>by simp[Pd.Up]
 |p::q=>by simp[Pd.Up,Pd.RB r q]
theorem Pd.FZ(r:List Vl)(p:Pd):p.holds r=if 3<=p.op/\p.op<=9 then p.TP r else if p.op=1 then true else if p.op=10 then !((p.l.map (Pd.holds r)).headD false)else if p.op=11 then p.l.all (Pd.holds r)else if p.op=12 then p.l.any (Pd.holds r)else false:=by
 cases p with
 |mk o c v w l=>
  rw[Pd.holds,Pd.RB];simp only[Pd.op,Pd.l,List.all_map,List.any_map];rfl
def Pr(r:List Vl)(l:List Pd):Bool:=(l.map (Pd.holds r)).headD false
def RA(r:List Vl)(l:List Pd):Bool:=l.all (Pd.holds r)
def Pq(r:List Vl)(l:List Pd):Bool:=l.any (Pd.holds r)
theorem c3W{r:List Vl}{l:List Pd}{i:Nat}{q:Pd}(h:l[i]? =some q):Pr r (l.take (i+1))=if i=0 then q.holds r else Pr r (l.take i):=by
 have VW:l.take (i+1)=l.take i++[q]:=by rw[a1J,h];rfl
 have Zb:=(a7y.1 h).1;unfold Pr;rw[VW]
 cases i with
 |zero=>rfl
 |succ i=>
  cases l with
  |nil=>cases Zb
  |cons a b=>rfl
theorem c4W{r:List Vl}{l:List Pd}{i:Nat}{q:Pd}(h:l[i]? =some q):RA r (l.take (i+1))=(RA r (l.take i)&&q.holds r):=by
 have VW:l.take (i+1)=l.take i++[q]:=by rw[a1J,h];rfl
 unfold RA;rw[VW,List.all_append];simp
theorem c5W{r:List Vl}{l:List Pd}{i:Nat}{q:Pd}(h:l[i]? =some q):Pq r (l.take (i+1))=(Pq r (l.take i)||q.holds r):=by
 have VW:l.take (i+1)=l.take i++[q]:=by rw[a1J,h];rfl
 unfold Pq;rw[VW,List.any_append];simp
theorem Pd.Qo(r:List Vl)(p:Pd):p.holds r=if 3<=p.op/\p.op<=9 then p.TP r else if p.op=1 then true else if p.op=10 then !Pr r p.l else if p.op=11 then RA r p.l else if p.op=12 then Pq r p.l else false:=Pd.FZ r p
theorem c6W{p:Pd}(h:p.Ok)(r:List Vl)(hr:r.length<2^63)(hv:∀x,x∈r->x.s.size<2^63):ZU prog true LJ [p.av, .iv (.Z6 3 (YM r))] [] (vb (p.holds r)) []:=by
 induction h with
 |mk p hl _ _ hq ih=>
 refine YD e8u (by simp) (by decide) rfl ?_;rw[Pd.Qo]
 by_cases ho:3<=p.op/\p.op<=9
 ·simp-dsimp[a1h,Pd.Z4,ho.1,ho.2];refine Zu (c2W p r hr hv) (by simp[Pd.Z4]) (by simp[Pd.Z4]) ?_;simp-dsimp
 ·rw[if_neg ho]
  have NY:∀i:Nat,i<=p.l.length->True:=fun _ _=>trivial
  by_cases h3:3<=p.op
  all_goals
   have h9:3<=p.op->¬p.op<=9:=fun h h'=>ho ⟨h,h'⟩
   simp-dsimp[a1h,Pd.Z4,h3,h9];refine YZ [] [] p.l.length (fun i=>⟨[(8,vi i),(7,vb (Pr r (p.l.take i))),(6,vb (Pq r (p.l.take i))),(5,vb (RA r (p.l.take i))),(2, .ptr 2 0),(1, .iv (.Z6 3 (YM r)))],[(2,p.box)]⟩) (fun _=>True) (by simp[Pd.box,Pr,RA,Pq]) trivial ?_;intro i hi _
   by_cases Zb:i<p.l.length
   ·obtain⟨q,Wa⟩:=Zw Zb;have hw:=Zo (n:=(i:Int)+1) (by omega);simp-dsimp[Ps,Pd.box,Wa,Pd.Z8 q];refine⟨fun _=>?_,fun h=>absurd h (by omega)⟩;refine Zu (ih q (a8y Wa)) (by simp[Pd.Z4]) (by simp[Pd.Z4]) ?_;have hF:=c3W (r:=r) Wa;have hA:=c4W (r:=r) Wa;have hO:=c5W (r:=r) Wa;rw[hF,hA,hO];generalize q.holds r=b
    generalize RA r (p.l.take i)=ba;generalize Pq r (p.l.take i)=bo;generalize Pr r (p.l.take i)=bf
    by_cases h0:i=0
    ·subst h0
     cases ba<;>cases bo<;>simp-dsimp
     all_goals exact⟨Zb,by decide⟩
    ·cases ba<;>cases bo<;>simp-dsimp[h0,hw]
     all_goals exact Zb
   ·have Vp:i=p.l.length:=by omega
    subst Vp;rw[a7I];simp-dsimp[Ps,Pd.box]
    by_cases o1:p.op=1
    ·simp-dsimp[o1]
    ·by_cases o10:p.op=10
     ·simp-dsimp[o10]
     ·by_cases o11:p.op=11
      ·simp-dsimp[o11]
      ·by_cases o12:p.op=12
       ·simp-dsimp[o12]
       ·simp-dsimp[o1,o10,o11,o12]
theorem d9a:XI prog S9=true:=by kernel_rfl
theorem d0b:XI prog S8=true:=by kernel_rfl
def rb(r:List Vl)(p:Pd):Prop:=ZU prog true LR [p.av, .iv (.Z6 3 (YM r))] [] (vb (p.holds r)) []
theorem d2b{r:List Vl}{q:Pd}(h:rb r q):ZU prog true S9 [q.av, .iv (.pt [.Z6 3 (YM r)])] [] (vb (q.holds r)) []:=by
 refine YD e7r (by simp) (by decide) rfl ?_;simp-dsimp[a4g,Pd.Z4];refine Zu h (by simp[Pd.Z4]) (by simp[Pd.Z4]) ?_;simp-dsimp
def Hc(r:List Vl):Ob:= .box [.fn S9 [] [.val (.pt [.Z6 3 (YM r)])]]
@[simp]theorem g5m(r:List Vl):(Hc r).hi=true:=rfl
theorem d3b{r:List Vl}{q:Pd}(h:rb r q):ZU prog false S8 [q.av, .ptr 1000 0] [(1000,Hc r)] (vb (!q.holds r)) [(1000,Hc r)]:=by
 refine a3L e3t (by simp) (by decide) (by simp) rfl ?_;simp-dsimp[a7g,Pd.Z4,Hc];refine⟨d9a,O8 (d2b h) (by simp) (by simp[Pd.Z4]) (by simp[Pd.Z4]) ?_⟩;simp-dsimp;rfl
theorem d4b{l:List Pd}(hl:l.length<2^63){r:List Vl}(h:∀q,q∈l->rb r q):
 ZU prog true LH [.iv (.Z6 9 (l.map Pd.cells)), .fn S9 [] [.val (.pt [.Z6 3 (YM r)])]] [] (vi (S6 (Pd.holds r) l)) []:=by
 refine YD F1 (by simp) (by decide) rfl ?_;simp-dsimp[a9h];refine YZ [] [] l.length (fun i=>⟨[(8,vi i),(7,vi l.length),(0, .iv (.Z6 9 (l.map Pd.cells))),(1, .fn S9 [] [.val (.pt [.Z6 3 (YM r)])])],[]⟩) (fun i=>ZH i fun j=>∀e,l[j]? =some e->e.holds r=false) ?_ Tn ?_
 ·simp-dsimp
 ·intro i hi hq;simp-dsimp[MS];refine⟨fun ZV=>?_,fun X3=>?_⟩
  ·obtain⟨e,he⟩:=Zw ZV;have hw:=Zo (n:=(i:Int)+1) (by omega);simp-dsimp[he,Pd.Z8 e];refine⟨d9a,O8 (d2b (h e (a8y he))) (by simp) (by simp[Pd.Z4]) (by simp[Pd.Z4]) ?_⟩
   cases hf:e.holds r with
   |true=>
    have:=rO (p:=Pd.holds r) he hf hq;simp-dsimp[this]
   |false=>
    simp-dsimp[hw];exact⟨ZV,hq.succ fun y hy=>by rw[he]at hy;cases hy;exact hf⟩
  ·rw[Ef (EY X3 hq)]
theorem d5b{l:List Pd}(hl:l.length<2^63){r:List Vl}(h:∀q,q∈l->rb r q):
 ZU prog false LH [.iv (.Z6 9 (l.map Pd.cells)), .fn S8 [] [.ptr 1000 0]] [(1000,Hc r)] (vi (S6 (fun q=> !q.holds r) l)) [(1000,Hc r)]:=by
 refine a3L F1 (by simp) (by decide) (by simp) rfl ?_;simp-dsimp[a9h];refine YZ [] [] l.length (fun i=>⟨[(8,vi i),(7,vi l.length),(0, .iv (.Z6 9 (l.map Pd.cells))),(1, .fn S8 [] [.ptr 1000 0])],[(1000,Hc r)]⟩) (fun i=>ZH i fun j=>∀e,l[j]? =some e->(!e.holds r)=false) ?_ Tn ?_
 ·simp-dsimp
 ·intro i hi hq;simp-dsimp[MS];refine⟨fun ZV=>?_,fun X3=>?_⟩
  ·obtain⟨e,he⟩:=Zw ZV;have hw:=Zo (n:=(i:Int)+1) (by omega);simp-dsimp[he,Pd.Z8 e];refine⟨d0b,TB (d3b (h e (a8y he))) rfl (by simp) (by simp[Pd.Z4]) (by simp[Pd.Z4]) (by simp) (by simp[Hc]) (by simp[Hc]) (by simp) ?_⟩
   cases hf:e.holds r with
   |true=>
    simp-dsimp[hw];exact⟨ZV,ZH.succ (fun j hj y hy=>by simpa using hq j hj y hy) fun y hy=>by rw[he]at hy;cases hy;exact hf⟩
   |false=>
    have:=rO (p:=fun q=> !Pd.holds r q) he (by rw[hf];rfl) hq;simp-dsimp[this]
  ·rw[Ef (EY X3 hq)]
theorem d6b{α:Type}(p:α->Bool)(l:List α):decide (0<=S6 p l)=l.any p:=by
 rw[b3S,decide_eq_true_eq,c1C,List.any_eq_true]
theorem d7b{l:List Pd}(hl:l.length<2^63){r:List Vl}(h:∀q,q∈l->rb r q):
 ZU prog true QA [.iv (.Z6 9 (l.map Pd.cells)), .fn S9 [] [.val (.pt [.Z6 3 (YM r)])]] [] (vb (Pq r l)) []:=by
 refine YD F2 (by simp) (by decide) rfl ?_;simp-dsimp[a6g];refine Zu (d4b hl h) (by simp) (by simp) ?_;simp-dsimp;have:=d6b (Pd.holds r) l;simpa[Pq]using this
theorem d8b{l:List Pd}(hl:l.length<2^63){r:List Vl}(h:∀q,q∈l->rb r q):
 ZU prog false QA [.iv (.Z6 9 (l.map Pd.cells)), .fn S8 [] [.ptr 1000 0]] [(1000,Hc r)] (vb (!RA r l)) [(1000,Hc r)]:=by
 refine a3L F2 (by simp) (by decide) (by simp) rfl ?_;simp-dsimp[a6g];refine TB (d5b hl h) rfl (by simp) (by simp) (by simp) (by simp) (by simp[Hc]) (by simp[Hc]) (by simp) ?_;simp-dsimp;have:=d6b (fun q=> !Pd.holds r q) l
 have h2:(l.any fun q=> !Pd.holds r q)= !RA r l:=by unfold RA;rw[List.not_all_eq_any_not]
 rw[h2]at this;simpa using this
theorem d9b{l:List Pd}(hl:l.length<2^63){r:List Vl}(h:∀q,q∈l->rb r q):
 ZU prog false QA [.iv (.Z6 9 (l.map Pd.cells)), .fn S8 [] [.ptr 5 0]] [(5,Hc r)] (vb (!RA r l)) [(5,Hc r)]:=
 (d8b hl h).Zk (Ren.WD [(1000,5)]) rfl
theorem d0c{p:Pd}(h:p.Ok)(r:List Vl)(hr:r.length<2^63):rb r p:=by
 induction h with
 |mk p hl _ _ hq ih=>
 refine YD a2k (by simp) (by decide) rfl ?_;rw[Pd.Qo]
 by_cases o1:p.op=1
 ·simp-dsimp[a9e,Pd.Z4,o1]
 ·by_cases ho:3<=p.op/\p.op<=9
  ·rw[if_pos ho]
   have:p.op=3\/p.op=4\/p.op=5\/p.op=6\/p.op=7\/p.op=8\/p.op=9:=by omega
   rcases this with o|o|o|o|o|o|o
   all_goals
    simp-dsimp[a9e,Pd.Z4,o];refine Zu (c1W p r hr) (by simp[Pd.Z4,o]) (by simp[Pd.Z4]) ?_;simp-dsimp
  ·rw[if_neg ho]
   have n3:¬p.op=3:=by omega
   have n4:¬p.op=4:=by omega
   have n5:¬p.op=5:=by omega
   have n6:¬p.op=6:=by omega
   have n7:¬p.op=7:=by omega
   have n8:¬p.op=8:=by omega
   have n9:¬p.op=9:=by omega
   by_cases o10:p.op=10
   ·simp-dsimp[a9e,Pd.Z4,o10]
    cases UN:p.l with
    |nil=>simp-dsimp[UN,Pr]
    |cons a b=>
     have ha:a∈p.l:=by rw[UN];exact a8C
     simp-dsimp[UN,Pd.Z8 a];refine⟨d9a,O8 (d2b (ih a ha)) (by simp) (by simp[Pd.Z4]) (by simp[Pd.Z4]) ?_⟩;simp-dsimp[Pr]
   ·by_cases o11:p.op=11
    ·simp-dsimp[a9e,Pd.Z4,o11];refine o9 (QZ [3] (by decide) _) ?_;refine TB (d9b (l:=p.l) hl ih) rfl (by simp) (by simp) (by simp) (by simp[Hc]) (by simp[Hc]) (by simp[Hc]) (by simp) ?_;simp-dsimp
    ·by_cases o12:p.op=12
     ·simp-dsimp[a9e,Pd.Z4,o12];refine Zu (d7b (l:=p.l) hl ih) (by simp) (by simp) ?_;simp-dsimp
     ·simp-dsimp[a9e,Pd.Z4,o1,n3,n4,n5,n6,n7,n8,n9,o10,o11,o12]
end Go.Rt
end

section
namespace Go.Proofs
open Go.Shelf
def Tryz.lays189_ren:Go.Shelf.Ren:=⟨fun| 189=>105| 125=>115| 257=>147| 128=>162| 129=>163| 294=>181| 295=>182| 296=>183| 297=>184| 298=>185| 299=>186| 216=>187| 300=>188| 301=>189| 328=>208| 329=>195| 330=>196| 331=>209| 332=>210| 215=>211| 343=>218|n=>n,fun| 28=>49| 3=>3| 46=>135| 0=>0| 51=>177| 53=>179| 4=>4| 183=>170| 182=>169| 131=>174| 5=>5| 9=>9| 218=>209| 222=>213| 228=>226| 229=>227|n=>n,fun|n=>n⟩
theorem Tryz.lays189:Go.Proofs.Lays.n189 Tryz.prog Tryz.lays189_ren:={
 mixed:=by kernel_rfl
 f125:=Tryz.func115.trans (congrArg some (by kernel_rfl))
 f128:=Tryz.func162.trans (congrArg some (by kernel_rfl))
 f129:=Tryz.func163.trans (congrArg some (by kernel_rfl))
 f189:=Tryz.func105.trans (congrArg some (by kernel_rfl))
 f215:=Tryz.func211.trans (congrArg some (by kernel_rfl))
 f216:=Tryz.func187.trans (congrArg some (by kernel_rfl))
 f257:=Tryz.func147.trans (congrArg some (by kernel_rfl))
 f294:=Tryz.func181.trans (congrArg some (by kernel_rfl))
 f295:=Tryz.func182.trans (congrArg some (by kernel_rfl))
 f296:=Tryz.func183.trans (congrArg some (by kernel_rfl))
 f297:=Tryz.func184.trans (congrArg some (by kernel_rfl))
 f298:=Tryz.func185.trans (congrArg some (by kernel_rfl))
 f299:=Tryz.func186.trans (congrArg some (by kernel_rfl))
 f300:=Tryz.func188.trans (congrArg some (by kernel_rfl))
 f301:=Tryz.func189.trans (congrArg some (by kernel_rfl))
 f328:=Tryz.func208.trans (congrArg some (by kernel_rfl))
 f329:=Tryz.func195.trans (congrArg some (by kernel_rfl))
 f330:=Tryz.func196.trans (congrArg some (by kernel_rfl))
 f331:=Tryz.func209.trans (congrArg some (by kernel_rfl))
 f332:=Tryz.func210.trans (congrArg some (by kernel_rfl))
 f343:=Tryz.func218.trans (congrArg some (by kernel_rfl))
 t0:=Tryz.underlying0
 a0:=Tryz.isAgg0
 z0:=Tryz.sizeOf0
 v0:=Tryz.zeroValue0
 t3:=Tryz.underlying3
 a3:=Tryz.isAgg3
 z3:=Tryz.sizeOf3
 v3:=Tryz.zeroValue3
 t4:=Tryz.underlying4
 a4:=Tryz.isAgg4
 z4:=Tryz.sizeOf4
 v4:=Tryz.zeroValue4
 t5:=Tryz.underlying5
 a5:=Tryz.isAgg5
 z5:=Tryz.sizeOf5
 v5:=Tryz.zeroValue5
 t9:=Tryz.underlying9
 a9:=Tryz.isAgg9
 z9:=Tryz.sizeOf9
 v9:=Tryz.zeroValue9
 t28:=Tryz.underlying49
 a28:=Tryz.isAgg49
 z28:=Tryz.sizeOf49
 v28:=Tryz.zeroValue49
 t46:=Tryz.underlying135
 a46:=Tryz.isAgg135
 z46:=Tryz.sizeOf135
 v46:=Tryz.zeroValue135
 t51:=Tryz.underlying177
 a51:=Tryz.isAgg177
 z51:=Tryz.sizeOf177
 v51:=Tryz.zeroValue177
 t53:=Tryz.underlying179
 a53:=Tryz.isAgg179
 z53:=Tryz.sizeOf179
 v53:=Tryz.zeroValue179
 t131:=Tryz.underlying174
 a131:=Tryz.isAgg174
 z131:=Tryz.sizeOf174
 v131:=Tryz.zeroValue174
 t182:=Tryz.underlying169
 a182:=Tryz.isAgg169
 z182:=Tryz.sizeOf169
 v182:=Tryz.zeroValue169
 t183:=Tryz.underlying170
 a183:=Tryz.isAgg170
 z183:=Tryz.sizeOf170
 v183:=Tryz.zeroValue170
 t218:=Tryz.underlying209
 a218:=Tryz.isAgg209
 z218:=Tryz.sizeOf209
 v218:=Tryz.zeroValue209
 t222:=Tryz.underlying213
 a222:=Tryz.isAgg213
 z222:=Tryz.sizeOf213
 v222:=Tryz.zeroValue213
 t228:=Tryz.underlying226
 a228:=Tryz.isAgg226
 z228:=Tryz.sizeOf226
 v228:=Tryz.zeroValue226
 t229:=Tryz.underlying227
 a229:=Tryz.isAgg227
 z229:=Tryz.sizeOf227
 v229:=Tryz.zeroValue227}
open Go.Sort Go.RowKit in
theorem Tryz.slices_Sort_int(R8 off cap:Nat)(zs:List Int)(w:World)(hH:Holds (Value.int .i64) w R8 off zs.toArray)(hblk:R8<w.heap.size)(Yd:zs.length<4611686018427387904):
 Calls Tryz.prog 105 #[.slice (some ⟨R8,off,none⟩) zs.length cap] w fun e w'=>
  e= .returned (.tuple #[])/\∃n os,w'=grow (putRow (Value.int .i64) (Sort.ahead w n) R8 off (zs.mergeSort fun x y=>decide (x<=y)).toArray) os:=Any.slices_Sort_int Tryz.lays189 R8 off cap zs w hH hblk Yd
end Go.Proofs
end

section
namespace Go.Rt
open Go.Vm
theorem c3Q(l:List Int):(Uk l).length=l.length:=d1b _
theorem c4Q(xs:List Int)(hl:xs.length<2^62):ZU prog false L5 [.sl 1000 1 0 xs.length] [(1000, .list 1 (Yj xs))] (.Zp []) [(1000, .list 1 (Yj (Uk xs)))]:=
 c8K Uk c3Q (by simp[Uk]) (fun R8 off cap zs w hH hb hs=>Go.Proofs.Tryz.slices_Sort_int R8 off cap zs w hH hb hs) (fun p cap w=>Go.Proofs.Any.slices_Sort_int_none Go.Proofs.Tryz.lays189 p cap w) xs hl
theorem c5Q(xs:List Int)(hl:xs.length<2^62):ZU prog false L5 [.sl 900 1 0 xs.length] [(900, .list 1 (Yj xs))] (.Zp []) [(900, .list 1 (Yj (Uk xs)))]:=
 (c4Q xs hl).Zk (Ren.WD [(1000,900)]) rfl
def F0(es:List Ev)(o:Ins)(k:Nat):List Vs:=⟨0,0⟩::(o.ZW.take k).map fun txn=>⟨txn,GA es txn o.table o.key⟩
theorem c6Q(es:List Ev)(o:Ins):F0 es o 0=[⟨0,0⟩]:=rfl
theorem c7Q{es:List Ev}{o:Ins}{k:Nat}{txn:Int}(h:o.ZW[k]? =some txn):F0 es o (k+1)=F0 es o k++[⟨txn,GA es txn o.table o.key⟩]:=by
 unfold F0;rw[show o.ZW.take (k+1)=o.ZW.take k++[txn] by rw[a1J,h];rfl];simp
theorem c8Q(es:List Ev)(o:Ins):F0 es o o.ZW.length=R9 es o:=by unfold F0 R9;rw[a7I]
theorem c9Q{es:List Ev}{o:Ins}{k:Nat}(h:k<=o.ZW.length):(F0 es o k).length=k+1:=by simp[F0];omega
def I8(es:List Ev):Prop:=∀e,e∈es->e.kind=3->e.row.length<2^40
def X8(es:List Ev)(os:List Ins):IV:= .pt [.mp skL (Lu es), .Z6 1 (Yj (Uk (XO es))), .mp rj (Lt es), .mp rj (MR es), .mp skC (EV es os)]
theorem c1R{h:Hs}(ZY:h.Ok)(XS:h.events.length<2^40)(hw:¬YP h):ZU prog false RZ [h.av] [] (.iv (.v (.pointer none))) []:=by
 refine TK Gb (by simp) (by decide) ?_;have hck:=c2J (h:=h) (fun hc=>hw ((d0f h).1 hc));simp-dsimp[a8a,Hs.av];refine Zu (c3J ZY XS) (by simp[Hs.av]) (by simp[Hs.av]) ?_;simp-dsimp[hck];exact⟨[1],by simp[YR,AV.Xj]⟩
theorem c2R{h:Hs}(ZY:h.Ok)(XS:h.events.length<2^40)(hw:YP h)(Zf:I8 h.events)(rk:∀o,o∈h.order->o.ZW.length<2^40):ZU prog false RZ [h.av] [] (.iv (X8 h.events h.order)) []:=by
 refine TK Gb (by simp) (by decide) ?_;have hck:=c1J ((d0f h).2 hw);simp-dsimp[a8a,Hs.av];refine Zu (c3J ZY XS) (by simp[Hs.av]) (by simp[Hs.av]) ?_;simp-dsimp[hck]
 refine b7l [5,6,55] h.events.length (fun i=>⟨[(25,vi i),(24,vi h.events.length),(23, .iv (.Z6 22 (Zi h.events))),(3, .ptr 21 0),(1, .ptr 1 0)],
  [(900, .list 1 (Yj (XO (h.events.take i)))),(21, .box [.mpr 16, .sl 900 1 0 (XO (h.events.take i)).length, .mpr 17, .mpr 18, .mpr 19]),(16, .map skL (Lu (h.events.take i))),(17, .map rj (Lt (h.events.take i))),(18, .map rj (MR (h.events.take i))),(19, .map skC (fun _=>none)),
   (1, .box [.iv (.Z6 1 (Zd h.tables)), .iv (.Z6 22 (Zi h.events)), .iv (.Z6 5 (Zh h.order))])]⟩) (fun _=>True) ?_ trivial ?_
 ·refine(b6l (j:=21) (i:=1) (id:=900) (sz:=1) rfl rfl rfl (by decide)).trans (LeTo.le (D:=[]) ?_);simp-dsimp[St.add,d6n,d7n,d8n,d9o,Yj]
 ·intro i hi _
  by_cases Zb:i<h.events.length
  ·obtain⟨e,he⟩:=Zw Zb;have SC:=Zo (n:=(i:Int)+1) (by omega)
   have VW:h.events.take (i+1)=h.events.take i++[e]:=by rw[a1J,he];rfl
   have Rc:=d1p (h.events.take i)
   have Rl:(h.events.take i).length<=h.events.length:=by simp;omega
   by_cases k1:e.kind=1
   ·have IY:=d0o (es:=h.events.take i) k1;have Jx:=d4o (es:=h.events.take i) (e:=e) (by omega);have hg3:=d6o (es:=h.events.take i) (e:=e) (by omega)
    have rG:XO (h.events.take i++[e])=XO (h.events.take i):=by rw[d0p,if_neg (by omega)];simp
    rw[VW,Jx,hg3,rG];simp-dsimp[U7,he,Zc,k1,IY,SC]
    exact fun h=>absurd h (by omega)
   ·by_cases k5:e.kind=5
    ·have IY:=d1o (es:=h.events.take i) (e:=e) k1;have Jx:=d4o (es:=h.events.take i) (e:=e) (by omega);have hg3:=d6o (es:=h.events.take i) (e:=e) (by omega)
     have rG:XO (h.events.take i++[e])=XO (h.events.take i)++[e.txn]:=by rw[d0p,if_pos k5]
     rw[VW,IY,Jx,hg3,rG];simp-dsimp[U7,he,Zc,k5,SC];exact⟨fun _=>⟨by omega,by omega,Zb,by simp[Yj]⟩,fun h=>absurd h (by omega)⟩
    ·have IY:=d1o (es:=h.events.take i) (e:=e) k1
     have rG:XO (h.events.take i++[e])=XO (h.events.take i):=by rw[d0p,if_neg (by omega)];simp
     by_cases k3:e.kind=3
     ·have Jx:=d3o (es:=h.events.take i) k3;have hg3:=d5o (es:=h.events.take i) k3;rw[VW,IY,rG];simp-dsimp[U7,he,Zc,k3];refine⟨fun _=>?_,fun h=>absurd h (by omega)⟩;have hre:=Zf e (a8y he) k3;have f8j:ZU prog false Yb [.iv (.Z6 3 (YM e.row))] [] (.iv (.Z6 3 (YM e.row))) []:=b9s (by simpa using hre)
      repeat' first
       |(refine c2O ?_ ?_)
       |(refine Yk f8j rfl (by simp) (by simp) (by simp) (by simp) ?_;simp-dsimp[Zc,Jx,hg3,SC])
      all_goals exact Zb
     ·have Jx:=d4o (es:=h.events.take i) (e:=e) k3;have hg3:=d6o (es:=h.events.take i) (e:=e) k3;rw[VW,IY,Jx,hg3,rG];simp-dsimp[U7,he,Zc,k1,k3,k5,SC]
      exact fun h=>absurd h (by omega)
  ·have Vp:i=h.events.length:=by omega
   subst Vp;rw[a7I];have Rc:=d1p h.events;simp-dsimp[U7];refine TB (c5Q (XO h.events) (by omega)) rfl (by simp) (by simp) (by simp) (by simp) (by simp) (by simp only[a6L,a5L,and_true];exact⟨_,rfl,Ob.Se rfl rfl (by simp[c3Q])⟩) (by simp) ?_
   simp-dsimp;have P8:=ZY.order
   refine YZ [1] [9,105] h.order.length (fun i=>⟨[(95,vi i),(94,vi h.order.length),(93, .iv (.Z6 5 (Zh h.order))),(3, .ptr 21 0)],
    [(900, .list 1 (Yj (Uk (XO h.events)))),(21, .box [.mpr 16, .sl 900 1 0 (XO h.events).length, .mpr 17, .mpr 18, .mpr 19]),(16, .map skL (Lu h.events)),(17, .map rj (Lt h.events)),(18, .map rj (MR h.events)),(19, .map skC (EV h.events (h.order.take i)))]⟩) (fun _=>True) ?_ trivial ?_
   ·simp[d9n]
   ·intro i hi _
    by_cases Zb:i<h.order.length
    ·obtain⟨o,ho⟩:=Zw Zb;have SC:=Zo (n:=(i:Int)+1) (by omega)
     have VW:h.order.take (i+1)=h.order.take i++[o]:=by rw[a1J,ho];rfl
     have hot:=rk o (a8y ho);have oh:=d7o h.events (h.order.take i) o;rw[VW];simp-dsimp[Px,ho,Ins.cells,Zc];refine⟨fun _=>?_,fun hh=>absurd hh (by omega)⟩
     refine YZ [8] [125] o.ZW.length (fun k=>⟨[(109,vi k),(108,vi o.ZW.length),(107, .iv (.Z6 1 (Yj o.ZW))),(10, .sl 105 2 0 (k+1)),(9, .ptr 9 0),(95,vi i),(94,vi h.order.length),(93, .iv (.Z6 5 (Zh h.order))),(3, .ptr 21 0)],
      [(105, .list 2 (VI (F0 h.events o k))),(9, .box [vi o.table,vb o.key.text,vi o.key.n, .iv (.v (.string o.key.s))]),(900, .list 1 (Yj (Uk (XO h.events)))),(21, .box [.mpr 16, .sl 900 1 0 (XO h.events).length, .mpr 17, .mpr 18, .mpr 19]),(16, .map skL (Lu h.events)),(17, .map rj (Lt h.events)),(18, .map rj (MR h.events)),(19, .map skC (EV h.events (h.order.take i)))]⟩) (fun _=>True) ?_ trivial ?_
     ·simp[c6Q,VI]
     ·intro k hk _
      by_cases XL:k<o.ZW.length
      ·obtain⟨txn,f3l⟩:=Zw XL;have Ux:=Zo (n:=(k:Int)+1) (by omega);have VB:=c7Q (es:=h.events) f3l;have Rc:=c9Q (es:=h.events) (o:=o) (k:=k) (by omega)
       have hvs:VI (F0 h.events o k)++[[ci txn,ci (GA h.events txn o.table o.key)]]=VI (F0 h.events o (k+1)):=by rw[VB];simp[VI]
       simp-dsimp[Py,f3l,Ux,Rc,hvs];exact⟨fun _=>⟨by omega,by omega,XL⟩,fun h=>absurd h (by omega)⟩
      ·have LG:k=o.ZW.length:=by omega
       subst LG;rw[c8Q];have Rc:=c9Q (es:=h.events) (o:=o) (k:=o.ZW.length) (by omega);rw[c8Q]at Rc;have TL:a7U (o.ZW.length+1) (VI (R9 h.events o))=VI (R9 h.events o):=a2B (by simp[Rc]);simp-dsimp[Py,TL,oh,SC];exact Zb
    ·have Vp:i=h.order.length:=by omega
     subst Vp;rw[a7I];simp-dsimp[Px];have TL:a7U (XO h.events).length (Yj (Uk (XO h.events)))=Yj (Uk (XO h.events)):=a2B (by simp[c3Q]);exact⟨[16,17,18,19,900,21],by simp[YR,AV.Xj,X8,TL]⟩
def Oo(es:List Ev)(txn:Int):Int:=((Wc (Ev.Rk txn) es).map Ev.level).getD 0
def Wq(es:List Ev)(table:Int)(k:Vl)(v:Vs):Option (List Vl):=if v=⟨0,0⟩then some []else(Wc (Ev.Tl v.txn table k v.n) es).map Ev.row
def Zr(es:List Ev)(os:List Ins)(table:Int)(k:Vl):List Vs:=match Wc (Ins.SI table k) os with
 |some o=>R9 es o
 |none=>[⟨0,0⟩]
def Yg(es:List Ev)(os:List Ins)(table:Int)(k:Vl)(v:Vs):Int:=if(Wq es table k v).isNone then-1 else S6 (fun x=>decide (x.txn=v.txn)) (Zr es os table k)
def Oa(es:List Ev)(table:Int)(k:Vl)(p:Pd)(v:Vs):Bool:= !((Wq es table k v).getD []).isEmpty&&p.holds ((Wq es table k v).getD [])
def Uz(es:List Ev)(os:List Ins)(table:Int)(k:Vl)(Wm:Int)(p:Pd):Bool:=
 if Wm<1\/(Zr es os table k).length<=Wm then false else Oa es table k p (((Zr es os table k)[(Wm-1).toNat]?).getD ⟨0,0⟩) != Oa es table k p (((Zr es os table k)[Wm.toNat]?).getD ⟨0,0⟩)
theorem b4y{txn table:Int}{k:Vl}{m:Int}{e:Ev}(h:e.Tl txn table k m=true):e.kind=3:=by
 simp only[Ev.Tl,a4C,Ev.Yw]at h;exact h.1.1
abbrev f3O:AV:= .iv (.v (.pointer none))
section
variable(es:List Ev)(os:List Ins)
theorem b5y(txn:Int):ZU prog true HP [.iv (X8 es os),vi txn] [] (vi (Oo es txn)) []:=by
 refine YD ph (by simp) (by decide) rfl ?_;simp-dsimp[a4d,X8,Lu,Oo]
 cases Wc (Ev.Rk txn) es<;>simp-dsimp
theorem b6y(XS:es.length<2^40):ZU prog false Mi [.iv (X8 es os)] [] (.iv (XJ (Uk (XO es)))) []:=by
 refine TK pg (by simp) (by decide) ?_;have:=d1p es;simp-dsimp[a9a,X8];refine Yk (b7s (xs:=Yj (Uk (XO es))) (by simp[c3Q];omega)) rfl (by simp) (by simp) (by simp) (by simp) ?_;simp-dsimp;exact⟨[2],by simp[YR,AV.Xj,XJ]⟩
theorem b7y(table:Int)(k:Vl)(v:Vs)(Zf:I8 es):ZU prog false OL [.iv (X8 es os),vi table,k.av,v.av] [] (.Zp [.iv (.Z6 3 (YM ((Wq es table k v).getD []))),vb (Wq es table k v).isSome]) []:=by
 refine e9q (by decide) pf (by simp) (by decide) ?_
 by_cases h0:v=⟨0,0⟩
 ·subst h0;simp-dsimp[a7b,X8,Wq];exact⟨[8,6,7],by simp[JG,AV.Xj,YM]⟩
 ·have h1:v.txn=0->¬v.n=0:=fun h h'=>h0 (Vs.eq_iff.2 ⟨h,h'⟩)
  have h2:Wq es table k v=(Wc (Ev.Tl v.txn table k v.n) es).map Ev.row:=by unfold Wq;rw[if_neg h0]
  rw[h2];simp-dsimp[a7b,X8,Lt];refine⟨fun a b=>absurd b (h1 a),fun _=>?_⟩
  cases hl:Wc (Ev.Tl v.txn table k v.n) es with
  |none=>
   simp-dsimp;have hc:ZU prog false Yb [.iv (.Z6 3 [])] [] (.iv (.Z6 3 [])) []:=b9s (by simp);refine Yk hc rfl (by simp) (by simp) (by simp) (by simp) ?_;simp-dsimp;exact⟨[6,7],by simp[JG,AV.Xj,YM]⟩
  |some e=>
   have hc:ZU prog false Yb [.iv (.Z6 3 (YM e.row))] [] (.iv (.Z6 3 (YM e.row))) []:=b9s (by simpa using Zf e (MF hl).1 (b4y (MF hl).2));simp-dsimp;refine Yk hc rfl (by simp) (by simp) (by simp) (by simp) ?_;simp-dsimp;exact⟨[6,7],by simp[JG,AV.Xj]⟩
theorem b8y(table:Int)(k:Vl):ZU prog false OC [.iv (X8 es os),vi table,k.av] [] (.iv (.Z6 2 (VI (Zr es os table k)))) []:=by
 refine TK pe (by simp) (by decide) ?_;simp-dsimp[Qw,X8,EV,Zr]
 cases Wc (Ins.SI table k) os with
 |none=>
  simp-dsimp;exact⟨[23,5],by simp[YR,AV.Xj,VI]⟩
 |some o=>
  simp-dsimp;exact⟨[5],by simp[YR,AV.Xj]⟩
theorem b9y(table:Int)(k:Vl)(hc:(Zr es os table k).length<2^42):ZU prog false OH [.iv (X8 es os),vi table,k.av] [] (.iv (.Z6 2 (VI (Zr es os table k)))) []:=by
 refine TK pd (by simp) (by decide) ?_;simp-dsimp[a4c,X8];refine Yk (b8y es os table k) rfl (by simp[X8]) (by simp) (by simp) (by simp) ?_;simp-dsimp;refine⟨by omega,by omega,?_⟩;have ht:a7U (Zr es os table k).length (VI (Zr es os table k))=VI (Zr es os table k):=a2B (by simp);refine⟨?_,[17],by simp[YR,AV.Xj,ht]⟩;unfold Zr
 cases Wc (Ins.SI table k) os<;>simp[R9]
theorem b0z:XI prog QD=true:=by kernel_rfl
theorem b1z(x v:Vs):ZU prog true QD [x.av, .iv (.pt v.cells)] [] (vb (decide (x.txn=v.txn))) []:=by
 refine YD pc (by simp) (by decide) rfl ?_;simp-dsimp[a7e];rfl
theorem b2z(l:List Vs)(hl:l.length<2^63)(v:Vs):ZU prog true HL [.iv (.Z6 2 (VI l)), .fn QD [] [.val (.pt v.cells)]] [] (vi (S6 (fun x=>decide (x.txn=v.txn)) l)) []:=by
 refine YD pb (by simp) (by decide) rfl ?_;simp-dsimp[a4e];refine YZ [] [] l.length (fun i=>⟨[(8,vi i),(7,vi l.length),(0, .iv (.Z6 2 (VI l))),(1, .fn QD [] [.val (.pt v.cells)])],[]⟩) (fun i=>ZH i fun j=>∀e,l[j]? =some e->decide (e.txn=v.txn)=false) ?_ Tn ?_
 ·simp-dsimp
 ·intro i hi hq;simp-dsimp[G4];refine⟨fun ZV=>?_,fun X3=>?_⟩
  ·obtain⟨e,he⟩:=Zw ZV;have hw:=Zo (n:=(i:Int)+1) (by omega);simp-dsimp[he,Zc];refine⟨b0z,O8 (b1z e v) (by simp) (by simp) (by simp) ?_⟩
   by_cases hf:e.txn=v.txn
   ·have:=rO (p:=fun x:Vs=>decide (x.txn=v.txn)) he (by simpa using hf) hq;simp-dsimp[hf,this]
   ·simp-dsimp[hf,hw];exact⟨ZV,ZH.succ (fun j hj y hy=>by simpa using hq j hj y hy) fun y hy=>by rw[he]at hy;cases hy;exact hf⟩
  ·rw[Ef (EY X3 hq)]
theorem b3z(table:Int)(k:Vl)(v:Vs)(Zf:I8 es)(hc:(Zr es os table k).length<2^42):ZU prog true L3 [.iv (X8 es os),vi table,k.av,v.av] [] (vi (Yg es os table k v)) []:=by
 refine YD pa (by simp) (by decide) rfl ?_;simp-dsimp[a3c];refine Yk (b7y es os table k v Zf) rfl (by simp) (by simp) (by simp) (by simp) ?_;unfold Yg
 cases hr:Wq es table k v with
 |none=>simp-dsimp
 |some r=>
  simp-dsimp;refine Yk (b8y es os table k) rfl (by simp) (by simp) (by simp) (by simp) ?_;simp-dsimp;refine Zu (b2z (Zr es os table k) (by omega) v) (by simp) (by simp) ?_;simp-dsimp
end
theorem b3O:XI prog LU=true:=by kernel_rfl
theorem b4O{es:List Ev}{table:Int}{k:Vl}{v:Vs}(Zf:I8 es):((Wq es table k v).getD []).length<2^40:=by
 unfold Wq;split
 ·simp
 ·cases h:Wc (Ev.Tl v.txn table k v.n) es with
  |none=>simp
  |some e=>exact Zf e (MF h).1 (b4y (MF h).2)
theorem b5O(es:List Ev)(os:List Ins)(table:Int)(k:Vl){p:Pd}(hp:p.Ok)(v:Vs)(Zf:I8 es):
 ZU prog true LU [v.av, .iv (.pt [X8 es os]), .iv (.pt [ci table]), .iv (.pt k.cells), .iv (.pt p.cells)] [] (vb (Oa es table k p v)) []:=by
 refine YD oW (by simp) (by decide) rfl ?_;simp-dsimp[a8e];refine Yk (b7y es os table k v Zf) rfl (by simp) (by simp) (by simp) (by simp) ?_;have hl:=b4O (table:=table) (k:=k) (v:=v) Zf
 have hp9:p.cells.length=9:=by rw[Pd.Z8];rfl
 unfold Oa;generalize (Wq es table k v).getD []=r at*
 cases r with
 |nil=>
  simp-dsimp[YM]
 |cons a b=>
  have ZS:0<(YM (a::b)).length:=by simp
  simp-dsimp;have ht:a7U 9 (p.cells.map AV.iv)=p.cells.map AV.iv:=a2B (by simp[hp9]);refine⟨by omega,?_⟩;refine Zu (d0c hp (a::b) (by omega)) (by simp[ht,Pd.av]) (by simp[Pd.av]) ?_;simp-dsimp
theorem b6O(es:List Ev)(os:List Ins)(table:Int)(k:Vl):0<(Zr es os table k).length:=by
 unfold Zr;split<;>simp[R9]
theorem b7O(es:List Ev)(os:List Ins)(table:Int)(k:Vl)(Wm:Int){p:Pd}(hp:p.Ok)(Zf:I8 es)(hc:(Zr es os table k).length<2^42):
 ZU prog true L2 [.iv (X8 es os),vi table,k.av,vi Wm,p.av] [] (vb (Uz es os table k Wm p)) []:=by
 refine YD oV (by simp) (by decide) rfl ?_
 have h1:=fun v=>b5O es os table k hp v Zf
 have MI:=b8y es os table k
 have TY:Uz es os table k Wm p=if Wm<1\/(Zr es os table k).length<=Wm then false else Oa es table k p (((Zr es os table k)[(Wm-1).toNat]?).getD ⟨0,0⟩) != Oa es table k p (((Zr es os table k)[Wm.toNat]?).getD ⟨0,0⟩):=rfl
 generalize Uz es os table k Wm p=res at*;generalize Zr es os table k=l at*;simp-dsimp[a5c,Pd.Z4,X8];refine Yk MI rfl (by simp[X8]) (by simp) (by simp) (by simp) ?_
 by_cases p1:Wm<1
 ·rw[if_pos (.inl p1)]at TY;subst TY;simp-dsimp[p1]
 ·by_cases p2:(l.length:Int)<=Wm
  ·rw[if_pos (.inr p2)]at TY;subst TY;simp-dsimp[p1,p2]
  ·obtain⟨q,rfl⟩:∃q:Nat,Wm=((q+1:Nat):Int):=⟨(Wm-1).toNat,by omega⟩;obtain⟨x,hx⟩:∃x,l[q]? =some x:=Zw (by omega);obtain⟨y,hy⟩:∃y,l[q+1]? =some y:=Zw (by omega);have hw:=Zo (n:=((q+1:Nat):Int)-1) (by omega)
   have hq:((q+1:Nat):Int)-1=q:=by omega
   rw[if_neg (by omega),hq,c2z,c2z,hx,hy]at TY;rw[hq]at hw;subst TY
   have p1':¬((q:Int)+1<1):=by omega
   have p2':¬((l.length:Int)<=(q:Int)+1):=by omega
   have p0:(0:Int)<=(q:Int)+1:=by omega
   have S4:IntKind.i64.wrap (q:Int)=q:=hw;simp-dsimp[p1',p2',p0,S4,hx,hy,Zc];refine⟨⟨b3O,O8 (h1 x) (by simp) (by simp[X8,Pd.Z8]) (by simp) ?_⟩,?_⟩
   ·simp-dsimp[Zc];refine⟨b3O,O8 (h1 y) (by simp) (by simp[X8,Pd.Z8]) (by simp) ?_⟩;simp-dsimp
   ·refine⟨b3O,O8 (h1 x) (by simp) (by simp[X8,Pd.Z8]) (by simp) ?_⟩;simp-dsimp;refine⟨b3O,O8 (h1 y) (by simp) (by simp[X8,Pd.Z8]) (by simp) ?_⟩;simp-dsimp
theorem c9Y{α:Type}[DecidableEq α]:∀{l r:List α},l.Nodup->(∀x,x∈l->x∈r)->l.length<=r.length
 | [],_,_,_=>c4u _
 |a::l,r,hn,h=>by
  have hn:=List.nodup_cons.1 hn;have ha:=h a a8C
  have:=c9Y (l:=l) (r:=r.erase a) hn.2 fun x hx=>by
   refine(List.mem_erase_of_ne ?_).2 (h x (a2C _ hx));rintro rfl;exact hn.1 hx
  rw[List.length_erase_of_mem ha]at this;have:=List.length_pos_of_mem ha;simp only[a3O];omega
theorem c0Z{α:Type}{l:List α}(h:∀(i:Nat) (t:α),l[i]? =some t->t∉l.take i):l.Nodup:=by
 unfold d5p;rw[c8x];intro i j hi hj Xo he;refine h j l[j] (a3I hj) (a8y (i:=i) ?_);rw[b9p Xo,a3I hi,he]
section
variable{h:Hs}
theorem c1Z{es:List Ev}{txn table:Int}{k:Vl}(hw:Yo es txn table k≠0):∃e,e∈es/\e.Qt txn table k=true:=by
 unfold Yo at hw;obtain⟨e,he⟩:=List.exists_mem_of_length_pos (Nat.pos_of_ne_zero hw);rw[a0F]at he;exact⟨e,he.1,he.2⟩
theorem c2Z(hw:YP h){o:Ins}(ho:o∈h.order):o.ZW.Nodup:=by
 obtain⟨i,hi⟩:=a9B ho
 exact c0Z fun j t hj=>((c5n hw hi).2.1 j (a7y.1 hj).1 t hj).2.2
theorem c3Z(hw:YP h){o:Ins}(ho:o∈h.order){t:Int}(ht:t∈o.ZW):W6 h.events t=5/\Yo h.events t o.table o.key≠0:=by
 obtain⟨i,hi⟩:=a9B ho;obtain⟨j,hj⟩:=a9B ht;have:=(c5n hw hi).2.1 j (a7y.1 hj).1 t hj;exact⟨this.1,this.2.1⟩
theorem c4Z(hw:YP h){o:Ins}(ho:o∈h.order):o.ZW.length<=h.events.length:=by
 have:=c9Y (l:=o.ZW) (r:=h.events.map Ev.txn) (c2Z hw ho) fun t ht=>by
  obtain⟨e,he,hk⟩:=c1Z (c3Z hw ho ht).2;exact a3E.2 ⟨e,he,(qw hk).2.1⟩
 simpa using this
theorem c5Z(hw:YP h){e:Ev}(he:e∈h.events):1<=e.txn:=by
 obtain⟨i,hi⟩:=a9B he;exact(IE hw hi).1.1.1
theorem qx{table:Int}{k:Vl}{o:Ins}:o.SI table k=true↔o.Tk table k:=by
 unfold Ins.SI Ins.Tk;rw[a4C,decide_eq_true_eq,decide_eq_true_eq]
theorem c7Z(hw:YP h){table:Int}{k:Vl}:∀(i j:Nat) (a b:Ins),h.order[i]? =some a->h.order[j]? =some b->a.SI table k=true->b.SI table k=true->i=j:=by
 have key:∀(i j:Nat) (a b:Ins),i<j->h.order[i]? =some a->h.order[j]? =some b->a.SI table k=true->b.SI table k=true->False:=by
  intro i j a b Xo hi hj ha hb;rw[qx]at ha hb;refine(c5n hw hj).1 a (a8y (i:=i) ?_) ⟨ha.1.trans hb.1.symm,ha.2.trans hb.2.symm⟩;rw[b9p Xo];exact hi
 intro i j a b hi hj ha hb
 rcases c0y i j with g|g|g
 ·exact(key i j a b g hi hj ha hb).elim
 ·exact g
 ·exact(key j i b a g hj hi hb ha).elim
theorem rE(hw:YP h)(table:Int)(k:Vl):(Zr h.events h.order table k).length<=h.events.length+1:=by
 unfold Zr
 cases ho:Wc (Ins.SI table k) h.order with
 |none=>simp
 |some o=>
  have:=c4Z hw (MF ho).1;simp[R9];omega
end
section
variable{h:Hs}
theorem b4z{α:Type}{p:α->Bool}{l:List α}(hu:∀(i j:Nat) (a b:α),l[i]? =some a->l[j]? =some b->p a=true->p b=true->i=j){e:α}(he:e∈l)(hp:p e=true):Wc p l=some e:=by
 cases hl:Wc p l with
 |none=>rw[d2n]at hl;rw[hl e he]at hp;cases hp
 |some a=>
  obtain⟨h1,h2⟩:=MF hl;obtain⟨i,hi⟩:=a9B h1;obtain⟨j,hj⟩:=a9B he;have:=hu i j a e hi hj h2 hp;subst this;rw[hi]at hj;exact hj
theorem b5z(hw:YP h){txn:Int}:∀(i j:Nat) (a b:Ev),h.events[i]? =some a->h.events[j]? =some b->a.Rk txn=true->b.Rk txn=true->i=j:=by
 have key:∀(i j:Nat) (a b:Ev),i<j->h.events[i]? =some a->h.events[j]? =some b->a.Rk txn=true->b.Rk txn=true->False:=by
  intro i j a b Xo hi hj ha hb;simp only[Ev.Rk,a4C,decide_eq_true_eq]at ha hb;obtain⟨_,_,_,_,h5,_⟩:=(IE hw hj).1.1;refine(h5 hb.1).1 ⟨a,a8y (i:=i) ?_,ha.2.trans hb.2.symm⟩;rw[b9p Xo];exact hi
 intro i j a b hi hj ha hb
 rcases c0y i j with g|g|g
 ·exact(key i j a b g hi hj ha hb).elim
 ·exact g
 ·exact(key j i b a g hj hi hb ha).elim
theorem b6z(hw:YP h){table:Int}{k:Vl}{v:Vs}:(Wq h.events table k v).isSome=true↔v=⟨0,0⟩\/(1<=v.n/\v.n<=Yo h.events v.txn table k):=by
 unfold Wq
 by_cases hv:v=⟨0,0⟩
 ·simp[hv]
 ·rw[if_neg hv,Option.isSome_map,c8o hw];simp[hv]
theorem b7z{es:List Ev}(i:Nat)(txn table:Int)(k:Vl):Yo (es.take i) txn table k<=Yo es txn table k:=by
 unfold Yo;exact((d1r i es).filter _).length_le
end
theorem a0B:∀{es:List Ev} {t:Int},W6 es t=5->∃e,e∈es/\e.txn=t/\e.kind=5
 | [],_,h=>by simp[W6]at h
 |x::r,t,h=>by
  rw[W6]at h
  by_cases hx:x.ends t
  ·rw[if_pos hx]at h;exact⟨x,a8C,hx.1,h⟩
  ·rw[if_neg hx]at h;obtain⟨e,h1,h2⟩:=a0B h;exact⟨e,a2C _ h1,h2⟩
section
variable{h:Hs}
theorem a1B(hw:YP h){t:Int}(ht:t∈XO h.events):W6 h.events t=5:=by
 unfold XO at ht;obtain⟨e,he,rfl⟩:=a3E.1 ht;rw[a0F,decide_eq_true_eq]at he;obtain⟨i,hi⟩:=a9B he.1;rw[b7j (i:=i) (e:=e) ?_ hi ⟨rfl, .inl he.2⟩,he.2];intro j hj x hx NP;have:=(IE hw hi).1.1.2.2.2.1 x (a8y (i:=j) (by rw[b9p hj];exact hx)) NP.1
 rcases NP.2 with g|g
 ·exact this.1 g
 ·exact this.2 g
theorem qy{t:Int}(h5:W6 h.events t=5):t∈XO h.events:=by
 obtain⟨e,h1,h2,h3⟩:=a0B h5;unfold XO;exact a3E.2 ⟨e,a0F.2 ⟨h1,by simpa using h3⟩,h2⟩
theorem a3B(hw:YP h):(XO h.events).Nodup:=by
 unfold XO d5p;rw[c8H,List.pairwise_filter,c8x];intro i j hi hj Xo h1 h2 he;simp only[decide_eq_true_eq]at h1 h2;have hgi:h.events[i]? =some h.events[i]:=a3I hi;have hgj:h.events[j]? =some h.events[j]:=a3I hj
 exact((IE hw hgj).1.1.2.2.2.1 h.events[i] (a8y (i:=i) (by rw[b9p Xo];exact hgi)) he).1 h1
def Ey(h:Hs)(table:Int)(k:Vl):List Int:=match Wc (Ins.SI table k) h.order with
 |some o=>o.ZW
 |none=>[]
variable{table:Int}{k:Vl}
theorem a4B(hw:YP h):Zr h.events h.order table k=⟨0,0⟩::(Ey h table k).map fun t=>⟨t,(Yo h.events t table k:Int)⟩:=by
 unfold Zr Ey
 cases ho:Wc (Ins.SI table k) h.order with
 |none=>rfl
 |some o=>
  obtain⟨h1,h2⟩:=MF ho;rw[qx]at h2;obtain⟨h2,h3⟩:=h2;simp only[R9,c6o hw,h2,h3]
theorem a5B(hw:YP h){t:Int}:t∈Ey h table k↔t∈XO h.events/\1<=Yo h.events t table k:=by
 constructor
 ·intro ht;unfold Ey at ht
  cases ho:Wc (Ins.SI table k) h.order with
  |none=>rw[ho]at ht;cases ht
  |some o=>
   rw[ho]at ht;obtain⟨h1,h2⟩:=MF ho;rw[qx]at h2;obtain⟨h2,h3⟩:=h2;obtain⟨g1,g2⟩:=c3Z hw h1 ht;rw[h2,h3]at g2;exact⟨qy g1,by omega⟩
 ·rintro⟨h1,h2⟩;obtain⟨e,he,hk⟩:=c1Z (es:=h.events) (txn:=t) (table:=table) (k:=k) (by omega);obtain⟨k3,rfl,rfl,rfl⟩:=qw hk;obtain⟨i,hi⟩:=a9B he;obtain⟨o,ho,hof,hot⟩:=(IE hw hi).2 k3 (a1B hw h1);unfold Ey;rw[b4z (c7Z hw) ho (qx.2 hof)];exact hot
theorem a6B(hw:YP h){t:Int}(ht:t∈Ey h table k):1<=t:=by
 obtain⟨_,h2⟩:=(a5B hw).1 ht;obtain⟨e,he,hk⟩:=c1Z (es:=h.events) (txn:=t) (table:=table) (k:=k) (by omega);obtain⟨_,rfl,_⟩:=qw hk;exact c5Z hw he
end
instance g7m {α:Type} {l:List α} {i:Nat} {p:α->Prop} [∀x,Decidable (p x)]:Decidable (∀x,l[i]? =some x->p x):=
 match h:l[i]? with
 |none=> .isTrue fun x hx=>by cases hx
 |some y=>if hp:p y then .isTrue fun x hx=>by cases hx;exact hp else .isFalse fun g=>hp (g y rfl)
instance g8m {α:Type} {l:List α} {i:Nat} {p:α->Prop} [∀x,Decidable (p x)]:Decidable (∃x,l[i]? =some x/\p x):=
 match h:l[i]? with
 |none=> .isFalse fun⟨x,hx,_⟩=>by cases hx
 |some y=>if hp:p y then .isTrue ⟨y,rfl,hp⟩else .isFalse fun⟨x,hx,g⟩=>by cases hx;exact hp g
instance f9B {n:Nat} {p:Nat->Prop} [∀j,Decidable (p j)]:Decidable (ZH n p):=by unfold ZH;infer_instance
instance {es:List Ev} {t:Int}:Decidable (OZ es t):=by unfold OZ;infer_instance
instance {es:List Ev} {t:Int}:Decidable (M6 es t):=by unfold M6;infer_instance
instance {es:List Ev} {e:Ev}:Decidable (GR es e):=by unfold GR;infer_instance
instance {t:Tb}:Decidable (WQ t):=by unfold WQ;infer_instance
instance {h:Hs} {table:Int} {k:Vl}:Decidable (SE h table k):=by unfold SE;infer_instance
instance {es:List Ev} {table:Int} {k:Vl} {v:Vs}:Decidable (LA es table k v):=by unfold LA;infer_instance
instance {t:Tb} {r:List Vl} {i:Nat}:Decidable (∀(v:Vl) (c:Bool),r[i]? =some v->t[i]? =some c->v.text=c/\v.right=true):=
 decidable_of_iff (∀v,r[i]? =some v->∀c,t[i]? =some c->v.text=c/\v.right=true) ⟨fun h v c a b=>h v a c b,fun h v a c b=>h v c a b⟩
instance {t:Tb} {r:List Vl} {i:Nat}:Decidable (e5c t r i):=by unfold e5c;infer_instance
instance {t:Tb} {r:List Vl}:Decidable (Fits t r):=by unfold Fits;infer_instance
instance {h:Hs} {es:List Ev} {e:Ev}:Decidable (Ig h es e):=by unfold Ig;infer_instance
instance {h:Hs} {es:List Ev} {e:Ev}:Decidable (JD h es e):=by unfold JD;infer_instance
noncomputable instance {h:Hs} {es:List Ev} {e:Ev}:Decidable (d6v h es e):=b7p _
noncomputable instance {h:Hs} {es:List Ev} {e:Ev}:Decidable (Nk h es e):=by unfold Nk;infer_instance
instance {table:Int} {k:Vl} {o:Ins}:Decidable (o.Tk table k):=by unfold Ins.Tk;infer_instance
instance {h:Hs} {e:Ev}:Decidable (DZ h e):=by unfold DZ;infer_instance
instance {h:Hs} {a:Nat} {o:Ins}:Decidable (GQ h a o):=by unfold GQ;infer_instance
instance {h:Hs}:Decidable (h.WS):=by unfold Hs.WS;infer_instance
instance {h:Hs}:Decidable (oR h):=by unfold oR;infer_instance
noncomputable instance {h:Hs}:Decidable (YP h):=by unfold YP;infer_instance
def k5:Vl:=⟨false,5,⟨#[]⟩⟩
def Jq:Pd:= .mk 0 0 Vl.zero Vl.zero []
def exB(t l:Int):Ev:=⟨t,1,l,0,Vl.zero,⟨0,0⟩,0,[],Jq,[],false⟩
def exW(t n:Int)(r:List Vl):Ev:=⟨t,3,0,0,k5,⟨0,0⟩,n,r,Jq,[],false⟩
def exC(t:Int):Ev:=⟨t,5,0,0,Vl.zero,⟨0,0⟩,0,[],Jq,[],false⟩
def Wb(l:List Rf)(k:Vl):Vs:=((Wc (fun r:Rf=>decide (r.key=k)) l).map Rf.ZX).getD ⟨0,0⟩
def R4(o:Ins):List Eg:=(o.ZW.zip o.ZW.tail).map fun p=>⟨p.1,p.2,1,o.table,o.key,false⟩
section
variable(h:Hs)(e:Ev)
def Jj(p:Int):List Eg:=if 0<p then[⟨e.ZX.txn,e.txn,2,e.table,e.key,e.cur⟩]else[]
def Mz(p:Int)(c:List Vs):List Eg:=if 0<=p/\p+1<c.length/\e.ZX.txn≠e.txn then[⟨e.txn,((c[(p+1).toNat]?).getD ⟨0,0⟩).txn,4,e.table,e.key,e.cur⟩]else[]
def JT:List Eg:=Jj e (Yg h.events h.order e.table e.key e.ZX)++Mz e (Yg h.events h.order e.table e.key e.ZX) (Zr h.events h.order e.table e.key)
def Qi(k:Vl)(p:Int)(i:Nat):List Eg:=if Uz h.events h.order e.table k i e.pred=true then
 [if(i:Int)<=p then⟨(((Zr h.events h.order e.table k)[i]?).getD ⟨0,0⟩).txn,e.txn,3,e.table,k,false⟩else⟨e.txn,(((Zr h.events h.order e.table k)[i]?).getD ⟨0,0⟩).txn,5,e.table,k,false⟩]else[]
def QL(k:Vl):List Eg:=if Yg h.events h.order e.table k (Wb e.refs k)<0\/(Wb e.refs k).txn=e.txn then[]else
 (a0I (Zr h.events h.order e.table k).length).flatMap (Qi h e k (Yg h.events h.order e.table k (Wb e.refs k)))
def QK(o:Ins):List Eg:=if o.table=e.table then QL h e o.key else[]
def Il:List Eg:=h.order.flatMap (QK h e)
def Qh:List Eg:=if W6 h.events e.txn=5 then(if e.kind=2 then JT h e else if e.kind=4 then Il h e else[])else[]
def Ji:List Eg:=h.order.flatMap R4++h.events.flatMap (Qh h)
noncomputable def YV:List Eg:=if YP h then(Ji h).foldl YT []else[]
end
theorem a6N{h:Hs}(hw:YP h){m:Eg}:m∈YV h↔m∈Ji h/\m.ZX≠m.to:=by
 unfold YV;rw[if_pos hw,c8q];simp
theorem a7N{h:Hs}(hw:¬YP h):YV h=[]:=by unfold YV;rw[if_neg hw]
theorem a8N{o:Ins}{m:Eg}:m∈R4 o↔∃i a b,o.ZW[i]? =some a/\o.ZW[i+1]? =some b/\m=⟨a,b,1,o.table,o.key,false⟩:=by
 unfold R4;rw[a3E];constructor
 ·rintro⟨p,hp,rfl⟩;obtain⟨i,hi⟩:=a9B hp;rw[c1T]at hi;rw[c7J]at hi;exact⟨i,p.1,p.2,hi.1,hi.2,rfl⟩
 ·rintro⟨i,a,b,h1,h2,rfl⟩;refine⟨(a,b),a8y (i:=i) ?_,rfl⟩;rw[c1T,c7J];exact⟨h1,h2⟩
/-! what is known of the ends and of the keys-/
section
variable{h:Hs}
def Hs.Rg(h:Hs):Prop:=∀e,e∈h.events-> -(2^63)<=e.txn/\e.txn<2^63
theorem a9N{table:Int}{k:Vl}(hk:SE h table k):k.right=true:=by
 obtain⟨_,t,_,h1,_⟩:=hk;exact h1
theorem a0O{table:Int}{k:Vl}(hw:YP h)(hk:SE h table k):0<=table/\table<3:=by
 obtain⟨h0,t,h1,_⟩:=hk;have h2:=(a7y.1 h1).1;have h3:=hw.1.1.2;omega
theorem a1O(hw:YP h){table:Int}{k:Vl}{i:Nat}{v:Vs}(hv:(Zr h.events h.order table k)[i]? =some v)(hi:0<i):
 v.txn∈XO h.events/\1<=v.txn/\∃e,e∈h.events/\e.txn=v.txn/\e.kind=3/\e.table=table/\e.key=k:=by
 rw[a4B hw]at hv
 cases i with
 |zero=>omega
 |succ i=>
  rw[a2I,a0C,Option.map_eq_some_iff]at hv;obtain⟨t,ht,rfl⟩:=hv;have hm:=a8y ht;have h1:=(a5B hw).1 hm;refine⟨h1.1,a6B hw hm,?_⟩;obtain⟨e,he,hk⟩:=c1Z (es:=h.events) (txn:=t) (table:=table) (k:=k) (by omega);obtain⟨k3,g1,g2,g3⟩:=qw hk;exact⟨e,he,g1,k3,g2,g3⟩
end
end Go.Rt
end

section
namespace Go.Vm
@[simp]theorem f7u{ks:List Nat}{Z:GZ}{vs:List Value}{cs:List AV}:Ob.YO ks (.gh Z vs cs)=cs.all (AV.Xq ks):=rfl
theorem a4Q{s:St}{id g i m:Nat}{cs:List AV}(ho:look s.hp id=some (.box cs))(hi:cs[i]? =some (.mpr m))(hg:look s.hp g=none)(hgl:g<1000):
 Jk s fun s'=>∃x:Value,s'=(s.add id (.box (cs.set i (.iv (.v x))))).add g (.gh ZT [x] [.mpr m]):=by
 rintro E n a w ⟨ψ,h⟩;obtain⟨b,c,e,q1,q2,q3,q4⟩:=h.YH id _ ho;have hm:=q4 i _ hi
 obtain⟨mb,hx⟩:∃mb,c.getD i undef= .map (some mb):=by
  generalize c.getD i undef=v at hm;cases hm;exact⟨_,rfl⟩
 have h1:=h.MH (o':= .box (cs.set i (.iv (.v (c.getD i undef))))) (k:=(0,c.size)) ho (Ob.le_none rfl) rfl (by simp[Ob.multi]) q1 (fun _ _=>rfl) rfl ⟨rfl,rfl,rfl,a8F _⟩ fun tr _=>⟨b,c,e,q1,q2,by simpa using q3,fun k y hy=>by
  rw[List.getElem?_set]at hy;split at hy
  ·rename_i e1;subst e1;split at hy
   ·cases hy;rw[hx];exact UP rfl
   ·cases hy
  ·exact tr _ _ (q4 k y hy)⟩
 have hgi:id≠g:=fun e=>by subst e;rw[ho]at hg;cases hg
 have Y6:look (s.add id (.box (cs.set i (.iv (.v (c.getD i undef)))))).hp g=none:=by rw[WX,if_neg hgi];exact hg
 have h2:=h1.new (o:= .gh ZT [c.getD i undef] [.mpr m]) (p:=none) (w':=w) hgl Y6 (Ext.refl w) (fun b k e=>by cases e) ⟨by simp[XF],fun _ _ _ _ _ _ _=>trivial,rfl,fun j y hy=>by
  cases j with
  |succ j=>simp at hy
  |zero=>
   simp only[a9E,a5y]at hy;subst hy;simp only[List.getD_cons_zero];generalize hv:c.getD i undef=v at hm
   cases hm with
   |mpr _ b' k' o' XQ XB=>
    have hgm:g≠m:=fun e=>by subst e;rw[hg]at XQ;cases XQ
    have:∃o2,look (s.add id (.box (cs.set i (.iv (.v (.map (some b'))))))).hp m=some o2:=by
     rw[WX];split
     ·exact⟨_,rfl⟩
     ·exact⟨_,XQ⟩
    obtain⟨o2,EC⟩:=this
    refine .mpr m b' k' o2 (by rw[WX,if_neg hgm];exact EC) (by simp only[XF];rw[if_neg (Ne.symm hgm)];exact XB)⟩
 exact⟨_,⟨_,rfl⟩,_,h2⟩
theorem a5Q{s:St}{t g i:Nat}{x:Value}{Z:GZ}{vs:List Value}{cs:List AV}{y:AV}(ht:s.get t= .iv (.v x))(hg:look s.hp g=some (.gh Z vs cs))(hv:vs[i]? =some x)(hc:cs[i]? =some y):Le s (s.set t y):=by
 rintro E n a w ⟨ψ,hs⟩;refine⟨ψ,{hs with frame:=fun u=>?_}⟩;rw[St.Xd];split
 ·rename_i e;subst e;have h1:=hs.frame t;rw[ht]at h1;have h2:=VN h1;have h3:=(hs.YH g _ hg).2.2.2 i _ hc;rw[b4P,hv]at h3;rw[h2];exact h3
 ·exact hs.frame u
theorem Jk.to{s:St}{F G:St->Prop}(h:Jk s F)(k:∀s',F s'->Jk s' G):Jk s G:=fun E n a w hs=>by
 obtain⟨s',h1,h2⟩:=h E n a w hs;exact k s' h1 E n a w h2
end Go.Vm
end

section
namespace Go.Rt
open Go.Vm
abbrev I7:Sk:=(true,[.i .i64, .i .i64, .i .i64, .i .i64, .b, .i .i64, .s, .b],false)
open Classical in
noncomputable def gE(S:Eg->Prop):List Value->Option (List IV)
 | [.int .i64 f, .int .i64 t, .int .i64 k, .int .i64 tb, .bool x, .int .i64 n, .string s, .bool c]=>if S ⟨f,t,k,tb,⟨x,n,s⟩,c⟩then some [ci 1]else none
 | _=>none
theorem d1O:gE (fun _=>False)=fun _=>none:=by
 funext q;unfold gE;split
 ·rw[if_neg];exact fun h=>h
 ·rfl
theorem d2O(S:Eg->Prop)(e:Eg):ZG (gE S) [.int .i64 e.ZX, .int .i64 e.to, .int .i64 e.kind, .int .i64 e.table, .bool e.key.text, .int .i64 e.key.n, .string e.key.s, .bool e.ZN] (some [ci 1])=gE (fun x=>S x\/x=e):=by
 funext q
 simp only[ZG];split
 ·rename_i h;subst h;simp only[gE];rw[if_pos];exact .inr rfl
 ·rename_i ZS;unfold gE;split
  ·rename_i f t k tb x n s c
   have hn:¬((⟨f,t,k,tb,⟨x,n,s⟩,c⟩:Eg)=e):=by rintro rfl;exact ZS rfl
   by_cases hp:S ⟨f,t,k,tb,⟨x,n,s⟩,c⟩
   ·rw[if_pos hp,if_pos (.inl hp)]
   ·rw[if_neg hp,if_neg fun g=>g.elim hp hn]
  ·rfl
def Ye(h:Hs)(x:Value):IV:= .pt [.Z6 1 (Zd h.tables), .Z6 22 (Zi h.events), .Z6 5 (Zh h.order),X8 h.events h.order, .v x]
noncomputable abbrev Ju(S:Eg->Prop)(x:Value):Hp:=[(1001, .map I7 (gE S)),(1002, .gh ZT [x] [.mpr 1001])]
def Rx(S:Eg->Prop)(e:Eg)(m:Eg):Prop:=S m\/(m=e/\e.ZX≠e.to)
theorem d3O(h:Hs)(S:Eg->Prop)(x:Value)(e:Eg):ZU prog false RX [.iv (Ye h x),e.av] (Ju S x) (.Zp []) (Ju (Rx S e) x):=by
 refine sc e4O (by simp) (by decide) (by simp) (by simp[Ob.Zl]) ?_
 by_cases BT:e.ZX=e.to
 ·have hS:Rx S e=S:=by funext m;exact propext ⟨fun g=>g.elim id fun g=>absurd BT g.2, .inl⟩
  rw[hS];simp-dsimp[Pj,Eg.av,Eg.cells,BT]
 ·have hS:Rx S e=fun m=>S m\/m=e:=by funext m;exact propext ⟨fun g=>g.elim .inl fun g=> .inr g.1,fun g=>g.elim .inl fun g=> .inr ⟨g,BT⟩⟩
  have X3:=(d2O S e).symm;rw[hS];simp-dsimp[Pj,Eg.av,Eg.cells,BT,Ye,X3,St.rL,c7T,ri]
def XU(S:Eg->Prop)(f:Nat->List Eg)(i:Nat)(m:Eg):Prop:=S m\/(m.ZX≠m.to/\∃j,j<i/\m∈f j)
def UQ{κ:Type}(S:Eg->Prop)(F:κ->List Eg)(ks:List κ)(m:Eg):Prop:=S m\/(m.ZX≠m.to/\∃k,k∈ks/\m∈F k)
theorem rD(S:Eg->Prop)(f:Nat->List Eg):XU S f 0=S:=by
 funext m;exact propext ⟨fun g=>g.elim id fun⟨_,j,hj,_⟩=>absurd hj (d5P _), .inl⟩
theorem d5O{S:Eg->Prop}{f:Nat->List Eg}{i:Nat}(h:f i=[]):XU S f (i+1)=XU S f i:=by
 funext m
 refine propext ⟨fun g=>g.imp id fun⟨h1,j,hj,hm⟩=>⟨h1,j,?_,hm⟩,fun g=>g.imp id fun⟨h1,j,hj,hm⟩=>⟨h1,j,by omega,hm⟩⟩
 rcases a6U j i with g|g
 ·exact g
 ·have:j=i:=by omega
  subst this;rw[h]at hm;cases hm
theorem d6O{S:Eg->Prop}{f:Nat->List Eg}{i:Nat}{e:Eg}(h:f i=[e]):XU S f (i+1)=Rx (XU S f i) e:=by
 funext m
 refine propext ⟨fun g=>?_,fun g=>?_⟩
 ·rcases g with g|⟨h1,j,hj,hm⟩
  ·exact .inl (.inl g)
  ·rcases a6U j i with g|g
   ·exact .inl (.inr ⟨h1,j,g,hm⟩)
   ·have:j=i:=by omega
    subst this;rw[h,a2z]at hm;subst hm;exact .inr ⟨rfl,h1⟩
 ·rcases g with(g|⟨h1,j,hj,hm⟩)|⟨rfl,h1⟩
  ·exact .inl g
  ·exact .inr ⟨h1,j,by omega,hm⟩
  ·exact .inr ⟨h1,i,by omega,by rw[h];exact a2z.2 rfl⟩
theorem d7O{κ:Type}(S:Eg->Prop)(F:κ->List Eg):UQ S F []=S:=by
 funext m;exact propext ⟨fun g=>g.elim id fun⟨_,k,hk,_⟩=>(by cases hk), .inl⟩
theorem d8O{κ:Type}(S:Eg->Prop)(F:κ->List Eg)(ks:List κ)(k:κ)(f:Nat->List Eg)(n:Nat)(hf:∀m,m∈F k↔∃j,j<n/\m∈f j):UQ S F (ks++[k])=XU (UQ S F ks) f n:=by
 funext m
 refine propext ⟨fun g=>?_,fun g=>?_⟩
 ·rcases g with g|⟨h1,k',hk,hm⟩
  ·exact .inl (.inl g)
  ·rcases a1E.1 hk with g|g
   ·exact .inl (.inr ⟨h1,k',g,hm⟩)
   ·rw[a2z.1 g]at hm;exact .inr ⟨h1,(hf m).1 hm⟩
 ·rcases g with(g|⟨h1,k',hk,hm⟩)|⟨h1,hm⟩
  ·exact .inl g
  ·exact .inr ⟨h1,k',a6O _ hk,hm⟩
  ·exact .inr ⟨h1,k,by simp,(hf m).2 hm⟩
theorem d9O{κ:Type}(S:Eg->Prop)(F:κ->List Eg)(ks:List κ)(k:κ)(hf:F k=[]):UQ S F (ks++[k])=UQ S F ks:=by
 rw[d8O S F ks k (fun _=>[]) 0 (fun m=>by rw[hf];simp),rD]
end Go.Rt
end

section
namespace Go.Rt
open Go.Vm
def US(h:Hs)(o:Ins):List AV:=[o.key.av, .iv (.Z6 2 (VI (Zr h.events h.order o.table o.key)))]
def TE(h:Hs)(l:List Ins):List (List AV):=l.map (US h)
def UG(table:Int)(o:Ins):Bool:=decide (o.table=table)
def f8k(h:Hs)(table:Int)(pre:List (List AV))(x:List AV):Prop:=∃(i:Nat) (o:Ins),h.order[i]? =some o/\o.table=table/\pre=TE h ((h.order.take i).filter (UG table))/\x=US h o
def f9O(h:Hs)(table:Int)(xs:List (List AV)):Prop:=xs=TE h (h.order.filter (UG table))
theorem c5u{table:Int}{l:List Ins}{i:Nat}{o:Ins}(ho:l[i]? =some o):(l.take (i+1)).filter (UG table)=(l.take i).filter (UG table)++if o.table=table then[o]else[]:=by
 rw[show l.take (i+1)=l.take i++[o] by rw[a1J,ho];rfl,b3o]
 congr 1
 unfold UG
 by_cases h:o.table=table<;>simp[h]
theorem c6u{h:Hs}(P8:h.order.length<2^62)(table:Int)(x:Value)(hc:∀k,(Zr h.events h.order table k).length<2^42):
 rJ prog UJ [.pt [Ye h x], .pt [ci table]] (f8k h table) (f9O h table):=by
 intro l Zs Zx cont hy;refine c0d jC (by simp) (by decide) ?_;simp-dsimp[a0l,Ye]
 refine YZ [] [5] h.order.length (fun i=>⟨[(12,vi i),(11,vi h.order.length),(10, .iv (.Z6 5 (Zh h.order))),(0, .iv (.v (.func (.yield l) #[] #[]))),(1, .iv (.pt [Ye h x])),(2, .iv (.pt [ci table]))],
  [(1000, .gh (Zs (TE h ((h.order.take i).filter (UG table)))) [] [])]⟩) (fun _=>True) ?_ trivial ?_
 ·simp-dsimp[Ye,TE]
 ·intro i hi _;simp-dsimp[Gs];refine⟨fun ZV=>?_,fun X3=>?_⟩
  ·obtain⟨o,ho⟩:=Zw ZV;have hw:=Zo (n:=(i:Int)+1) (by omega);have YL:=c5u (table:=table) ho
   by_cases ht:o.table=table
   ·simp-dsimp[ho,Ins.Z8 o,ht,Ye];rw[if_pos ht]at YL;have hp:f8k h table (TE h ((h.order.take i).filter (UG table))) (US h o):=⟨i,o,ho,ht,rfl,rfl⟩
    have Zf:TE h ((h.order.take i).filter (UG table))++[US h o]=TE h ((h.order.take (i+1)).filter (UG table)):=by
     rw[YL];simp[TE]
    have Uj:US h o=[o.key.av, .iv (.Z6 2 (VI (Zr h.events h.order table o.key)))]:=by unfold US;rw[ht]
    constructor
    all_goals refine Yk (b9y h.events h.order table o.key (hc o.key)) rfl (by simp) (by simp) (by simp) (by simp) ?_
    all_goals simp-dsimp
    all_goals refine c1d (g:=1000) (hy _ _ hp) (by simp) (by rw[Uj];simp) (by rw[Uj];rfl) ?_
    all_goals (
     cases VB:cont (TE h ((h.order.take i).filter (UG table))) (US h o)with
     |true=>
      simp-dsimp[VB,Zf,hw];exact⟨ZV,rfl⟩
     |false=>
      simp-dsimp[VB]
      exact⟨Zx (TE h ((h.order.take i).filter (UG table))) (US h o),by simp,fun A B w hz=> .inr ⟨_,_,hz⟩,by simp⟩)
   ·rw[if_neg ht,b2y]at YL;simp-dsimp[ho,Ins.Z8 o,ht,hw,Ye,YL];exact ZV
  ·have:(h.order.take i)=h.order:=a2B (by omega);rw[this];exact⟨Zs (TE h (h.order.filter (UG table))),by simp,fun A B w hz=> .inl ⟨_,rfl,hz⟩,by simp⟩
theorem c7u(h:Hs)(table:Int)(x:Value):Ng prog false OI [.iv (Ye h x),vi table] [] (fun r K=>r= .fn UJ [] [.ptr 2 0, .ptr 3 0]/\K=[(3, .box [vi table]),(2, .box [.iv (Ye h x)])]):=by
 refine c3d _ jB (by simp) (by decide) (fun x H' h=>by
  obtain⟨rfl,rfl⟩:=h;refine⟨fun id o ho=>?_,by simp⟩;simp only[Vm.look]at ho;split at ho
  ·cases ho;rfl
  ·split at ho
   ·cases ho;rfl
   ·cases ho) ?_
 simp-dsimp[RD];exact⟨[],_,_,⟨rfl,rfl⟩,by simp-dsimp⟩
theorem c8u(h:Hs)(table:Int)(x:Value):ZU prog false OI [.iv (Ye h x),vi table] [] (.fn UJ [] [.ptr 902 0, .ptr 903 0]) [(903, .box [vi table]),(902, .box [.iv (Ye h x)])]:=
 ((
  c7u h table x).one (fun _ _ e=>e) (fun id o ho=>by
  simp only[Vm.look]at ho;split at ho
  ·cases ho;rfl
  ·split at ho
   ·cases ho;rfl
   ·cases ho)).Zk (Ren.WD [(2,902),(3,903)]) rfl
theorem c9u:XI prog UJ=true:=by kernel_rfl
def e3R:List AV->Vl
 | [.agg [.iv (.v (.bool t)), .iv (.v (.int _ n)), .iv (.v (.string s))],_]=>⟨t,n,s⟩
 | _=>Vl.zero
def ML(p:List (List AV)):List Vl:=p.map e3R
theorem d2r(h:Hs)(l:List Ins):ML (TE h l)=l.map Ins.key:=by
 unfold ML TE;rw[b6S];rfl
def Js(h:Hs)(table:Int)(k:Vl)(i:Nat):List Eg:=if 2<=i then[⟨(((Zr h.events h.order table k)[i-1]?).getD ⟨0,0⟩).txn,(((Zr h.events h.order table k)[i]?).getD ⟨0,0⟩).txn,1,table,k,false⟩]else[]
def wwK(h:Hs)(table:Int)(k:Vl):List Eg:=(a0I (Zr h.events h.order table k).length).flatMap (Js h table k)
theorem mem_range{n:Nat}{f:Nat->List Eg}{m:Eg}:m∈(a0I n).flatMap f↔∃j,j<n/\m∈f j:=by
 rw[a2N];simp
theorem d3r{h:Hs}(P8:h.order.length<2^62)(table:Int)(x:Value)(hc:∀k,(Zr h.events h.order table k).length<2^42)(S:Eg->Prop):
 ZU prog false Mj [.iv (Ye h x),vi table] (Ju S x) (.Zp []) (Ju (UQ S (wwK h table) ((h.order.filter (UG table)).map Ins.key)) x):=by
 refine sc e0H (by simp) (by decide) (by simp) (by simp[Ob.Zl]) ?_;simp-dsimp[Rw];refine Yk (c8u h table x) rfl (by simp) (by simp) (by simp) (by simp) ?_;simp-dsimp
 refine c2d [902,903] [4] 990 [(9, .fn UJ [] [.val (.pt [Ye h x]), .val (.pt [ci table])]),(3, .ptr 3 0),(2, .ptr 2 0)] (fun p=>∃i,p=TE h ((h.order.take i).filter (UG table)))
  (fun p=>(3, .box [vi table])::(2, .box [.iv (Ye h x)])::Ju (UQ S (wwK h table) (ML p)) x) (c6u P8 table x hc) ?_ (by simp) c9u (by decide) (by simp) (by simp) ?_ ⟨0,rfl⟩ ?_ ?_
 ·simp-dsimp[ML,d7O]
 ·rintro pre _ ⟨i,o,_,_,_,rfl⟩;rfl
 ·rintro vs _ _ ⟨j,rfl⟩ ⟨i,o,ho,ht,OY,rfl⟩;have YL:=c5u (table:=table) ho;rw[if_pos ht]at YL;rw[OY]
  have Zf:TE h ((h.order.take i).filter (UG table))++[US h o]=TE h ((h.order.take (i+1)).filter (UG table)):=by
   rw[YL];simp[TE]
  refine⟨⟨i+1,Zf⟩,?_⟩
  have WZ:ML (TE h ((h.order.take i).filter (UG table))++[US h o])=ML (TE h ((h.order.take i).filter (UG table)))++[o.key]:=by
   unfold ML;rw[a6M];rfl
  have Uj:US h o=[o.key.av, .iv (.Z6 2 (VI (Zr h.events h.order table o.key)))]:=by unfold US;rw[ht]
  have hlen:=hc o.key;have Zy:=d8O S (wwK h table) (ML (TE h ((h.order.take i).filter (UG table)))) o.key (Js h table o.key) (Zr h.events h.order table o.key).length (fun m=>mem_range)
  have hf:∀q,Js h table o.key q=if 2<=q then[⟨(((Zr h.events h.order table o.key)[q-1]?).getD ⟨0,0⟩).txn,(((Zr h.events h.order table o.key)[q]?).getD ⟨0,0⟩).txn,1,table,o.key,false⟩]else[]:=fun q=>rfl
  rw[WZ,Zy,Uj];generalize UQ S (wwK h table) (ML (TE h ((h.order.take i).filter (UG table))))=S0;generalize Js h table o.key=f at hf⊢;generalize Zr h.events h.order table o.key=c at hf hlen⊢;simp-dsimp[FU,Kb,UU,St.set_mk,X0]
  have f0:f 0=[]:=by rw[hf,if_neg (by omega)]
  have f1:f 1=[]:=by rw[hf,if_neg (by omega)]
  refine YZ [] [] (c.length-2) (fun q=>⟨[(6,vi ((q+2:Nat):Int)),(5, .iv (.Z6 2 (VI c))),(4, .ptr 4 0),(3, .ptr 3 0),(2, .ptr 2 0)],
   [(4, .box (o.key.cells.map .iv)),(990, .gh ZT vs [.fn UJ [] [.val (.pt [Ye h x]), .val (.pt [ci table])], .ptr 3 0, .ptr 2 0]),(3, .box [vi table]),(2, .box [.iv (Ye h x)])]++Ju (XU S0 f (q+2)) x⟩) (fun _=>True) ?_ trivial ?_
  ·have:XU S0 f (0+2)=S0:=by rw[d5O f1,d5O f0,rD]
   simp-dsimp[this]
  ·intro q hq _;simp-dsimp[FV];refine⟨fun ZV=>?_,fun X3=>?_⟩
   ·obtain⟨v,hv⟩:∃v,c[q+2]? =some v:=Zw (by omega);obtain⟨u,hu⟩:∃u,c[q+1]? =some u:=Zw (by omega)
    have w1:IntKind.i64.wrap ((q:Int)+2-1)=((q+1:Nat):Int):=by rw[Zo (by omega)];omega
    have w2:IntKind.i64.wrap ((q:Int)+2+1)=(q:Int)+1+2:=by rw[Zo (by omega)];omega
    have t1:((q:Int)+2).toNat=q+2:=by omega
    have p1:(0:Int)<=(q:Int)+2:=by omega
    have EI:f (q+2)=[⟨u.txn,v.txn,1,table,o.key,false⟩]:=by
     rw[hf,if_pos (by omega),show q+2-1=q+1 from rfl,hu,hv];rfl
    have QW:=d6O (S:=S0) EI;simp-dsimp[w1,t1,p1,hv,hu,Zc];refine⟨by omega,?_⟩;refine TB (d3O h (XU S0 f (q+2)) x ⟨u.txn,v.txn,1,table,o.key,false⟩) rfl (by simp) (by simp[Eg.av,Eg.cells]) (by simp[Eg.av,Eg.cells]) (by simp) (by simp) (by simp) (by simp) ?_;rw[<-QW];simp-dsimp[w2];omega
   ·have Nc:XU S0 f (q+2)=XU S0 f c.length:=by
     rcases a6U c.length 2 with g|g
     ·have qa:q=0:=by omega
      have h2:XU S0 f (0+2)=S0:=by rw[d5O f1,d5O f0,rD]
      rw[qa,h2]
      have:c.length=0\/c.length=1:=by omega
      rcases this with e|e<;>rw[e]
      ·rw[rD]
      ·rw[d5O f0,rD]
     ·rw[show q+2=c.length by omega]
    rw[Nc]
 ·rintro vs _ _ hS;rw[hS,d2r];simp-dsimp[X0]
theorem d7a(es:List Ev)(os:List Ins)(table:Int)(k:Vl)(v:Vs):Yg es os table k v<(Zr es os table k).length/\ -1<=Yg es os table k v:=by
 unfold Yg;split
 ·have:=b6O es os table k;omega
 ·rcases c0C (fun x:Vs=>decide (x.txn=v.txn)) (Zr es os table k)with⟨i,x,g1,_,g3,_⟩|⟨_,g⟩
  ·have:=(a7y.1 g1).1;rw[g3];omega
  ·rw[g];omega
def rdT(e:Ev)(p:Int)(c:List Vs)(S:Eg->Prop)(m:Eg):Prop:=S m\/(m.ZX≠m.to/\m∈Jj e p++Mz e p c)
def re(e:Ev)(p:Int)(c:List Vs)(S:Eg->Prop)(m:Eg):Prop:=S m\/(m.ZX≠m.to/\m∈Mz e p c)
theorem d8a{h:Hs}(x:Value)(e:Ev)(Zf:I8 h.events)(hc:(Zr h.events h.order e.table e.key).length<2^42)(S:Eg->Prop):
 ZU prog false Mh [.iv (Ye h x),e.av] (Ju S x) (.Zp []) (Ju (UQ S (fun _:Unit=>JT h e) [()]) x):=by
 have hP:=b3z h.events h.order e.table e.key e.ZX Zf hc;have hC:=b9y h.events h.order e.table e.key hc;have ZV:=d7a h.events h.order e.table e.key e.ZX
 have hS:UQ S (fun _:Unit=>JT h e) [()]=rdT e (Yg h.events h.order e.table e.key e.ZX) (Zr h.events h.order e.table e.key) S:=by
  funext m;unfold UQ JT rdT;simp
 rw[hS];generalize Yg h.events h.order e.table e.key e.ZX=p at*;generalize Zr h.events h.order e.table e.key=c at*;refine sc e0C (by simp) (by decide) (by simp) (by simp[Ob.Zl]) ?_;simp-dsimp[NV,Ye,Ev.av,Ev.Z8 e];refine Zu hP (by simp) (by simp) ?_;simp-dsimp;refine Yk hC rfl (by simp) (by simp) (by simp) (by simp) ?_;simp-dsimp
 have hT1:0<p->rdT e p c S=re e p c (Rx S ⟨e.ZX.txn,e.txn,2,e.table,e.key,e.cur⟩):=by
  intro h1
  funext m
  unfold rdT re Jj Rx;rw[if_pos h1];simp only[c6h,c9n,a2E,or_assoc,eq_iff_iff];constructor
  ·rintro(g|⟨g1,rfl|g2⟩)
   ·exact .inl g
   ·exact .inr (.inl ⟨rfl,g1⟩)
   ·exact .inr (.inr ⟨g1,g2⟩)
  ·rintro(g|⟨rfl,g1⟩|⟨g1,g2⟩)
   ·exact .inl g
   ·exact .inr ⟨g1, .inl rfl⟩
   ·exact .inr ⟨g1, .inr g2⟩
 have hT0:¬0<p->rdT e p c S=re e p c S:=by
  intro h1
  funext m
  unfold rdT re Jj;rw[if_neg h1,c9n]
 have hU1:∀(S:Eg->Prop) (v:Vs),0<=p->c[(p+1).toNat]? =some v->p+1<c.length->e.ZX.txn≠e.txn->re e p c S=Rx S ⟨e.txn,v.txn,4,e.table,e.key,e.cur⟩:=by
  intro S v g1 g2 g3 g4
  funext m
  unfold re Mz Rx;rw[if_pos ⟨g1,g3,g4⟩,g2,a2z,eq_iff_iff];constructor
  ·rintro(g|⟨g1,rfl⟩)
   ·exact .inl g
   ·exact .inr ⟨rfl,g1⟩
  ·rintro(g|⟨rfl,g1⟩)
   ·exact .inl g
   ·exact .inr ⟨g1,rfl⟩
 have hU0:∀(S:Eg->Prop),¬(0<=p/\p+1<c.length/\e.ZX.txn≠e.txn)->re e p c S=S:=by
  intro S g
  funext m
  unfold re Mz;rw[if_neg g];simp
 have hw:IntKind.i64.wrap (p+1)=p+1:=Zo (by omega)
 by_cases h1:0<p
 ·rw[hT1 h1]
  have Ra:¬p<=0:=by omega
  simp-dsimp[h1,Ra];refine TB (d3O h S x ⟨e.ZX.txn,e.txn,2,e.table,e.key,e.cur⟩) rfl (by simp) (by simp[Eg.av,Eg.cells,Ye]) (by simp[Eg.av,Eg.cells]) (by simp) (by simp) (by simp) (by simp) ?_;generalize Rx S ⟨e.ZX.txn,e.txn,2,e.table,e.key,e.cur⟩=S1
  have h0:0<=p:=by omega
  by_cases h2:p+1<c.length
  ·by_cases h3:e.ZX.txn=e.txn
   ·rw[hU0 S1 fun g=>g.2.2 h3];simp-dsimp[h0,hw,h2,h3]
   ·obtain⟨v,hv⟩:∃v,c[(p+1).toNat]? =some v:=Zw (by omega);rw[hU1 S1 v h0 hv h2 h3]
    have h4:0<=p+1:=by omega
    have hv':∀hh,(VI c)[(p+1).toNat]'hh=v.cells:=fun hh=>(a7y.1 (show(VI c)[(p+1).toNat]? =some v.cells by rw[d4n,hv];rfl)).2
    simp-dsimp[h0,hw,h2,h3,hv',h4,Zc];refine TB (d3O h S1 x ⟨e.txn,v.txn,4,e.table,e.key,e.cur⟩) rfl (by simp) (by simp[Eg.av,Eg.cells,Ye]) (by simp[Eg.av,Eg.cells]) (by simp) (by simp) (by simp) (by simp) ?_;simp-dsimp
  ·rw[hU0 S1 fun g=>h2 g.2.1];simp-dsimp[h0,hw,h2]
 ·rw[hT0 h1]
  have Ra:p<=0:=by omega
  simp-dsimp[h1,Ra]
  by_cases h0:0<=p
  ·obtain rfl:p=0:=by omega
   have UY:IntKind.i64.wrap 1=1:=Zo (by omega)
   by_cases h2:1<c.length
   ·have O4:(1:Int)<c.length:=by omega
    have h2n:¬(c.length:Int)<=1:=by omega
    by_cases h3:e.ZX.txn=e.txn
    ·rw[hU0 S fun g=>g.2.2 h3];simp-dsimp[UY,h2,O4,h2n,h3]
    ·obtain⟨v,hv⟩:∃v,c[1]? =some v:=Zw h2;rw[hU1 S v (by omega) (by simpa using hv) (by omega) h3]
     have hv':∀hh,c[1]'hh=v:=fun hh=>(a7y.1 hv).2
     simp-dsimp[UY,h2,O4,h2n,h3,hv',Zc];refine TB (d3O h S x ⟨e.txn,v.txn,4,e.table,e.key,e.cur⟩) rfl (by simp) (by simp[Eg.av,Eg.cells,Ye]) (by simp[Eg.av,Eg.cells]) (by simp) (by simp) (by simp) (by simp) ?_;simp-dsimp
   ·have O4:¬(1:Int)<c.length:=by omega
    rw[hU0 S fun g=>O4 (by simpa using g.2.1)];simp-dsimp[UY,h2,O4]
  ·rw[hU0 S fun g=>h0 g.1];simp-dsimp[h0]
abbrev e7R:Sk:=(true,[.b, .i .i64, .s],true)
def d3B(l:List Rf)(k:Vl):Option Rf:=Wc (fun r:Rf=>decide (r.key=k)) l
def FM(l:List Rf):List Value->Option (List IV)
 | [.bool t, .int .i64 n, .string s]=>(d3B l ⟨t,n,s⟩).map fun r=>r.ZX.cells
 | _=>none
theorem d4B:FM []=fun _=>none:=by
 funext q;unfold FM;split
 ·rfl
 ·rfl
theorem d5B(l:List Rf)(r:Rf):ZG (FM l) [.bool r.key.text, .int .i64 r.key.n, .string r.key.s] (some [ci r.ZX.txn,ci r.ZX.n])=FM (l++[r]):=by
 funext q
 simp only[ZG];split
 ·rename_i h;subst h;simp only[FM,d3B,NJ];rw[if_pos (by simp)];rfl
 ·rename_i ZS;unfold FM;split
  ·rename_i t n s;simp only[d3B,NJ];rw[if_neg];intro hk;rw[decide_eq_true_eq]at hk;exact ZS (by rw[hk])
  ·rfl
theorem d6B(l:List Rf)(t:Bool)(n:Int)(s:ByteArray):
 N9 [.iv (.v (.int .i64 0)), .iv (.v (.int .i64 0))] true false (FM l [Value.bool t,Value.int .i64 n,Value.string s])=(Wb l ⟨t,n,s⟩).av:=by
 simp only[FM,Wb];unfold d3B
 cases Wc (fun r:Rf=>decide (r.key=⟨t,n,s⟩)) l with
 |none=>rfl
 |some r=>rfl
theorem d7B{h:Hs}(P8:h.order.length<2^62)(x:Value)(e:Ev)(XR:e.Ok)(Zf:I8 h.events)(hc:∀k,(Zr h.events h.order e.table k).length<2^42)(S:Eg->Prop):
 ZU prog false Mg [.iv (Ye h x),e.av] (Ju S x) (.Zp []) (Ju (UQ S (QL h e) ((h.order.filter (UG e.table)).map Ins.key)) x):=by
 refine sc e7I (by simp) (by decide) (by simp) (by simp[Ob.Zl]) ?_;simp-dsimp[J7,Ev.av,Ev.Z8 e]
 refine YZ [] [6] e.refs.length (fun i=>⟨[(16,vi i),(15,vi e.refs.length),(14, .iv (.Z6 5 (Nn e.refs))),(4, .ptr 4 0),(3, .ptr 3 0),(2, .ptr 2 0)],
  [(4, .box [.mpr 12]),(12, .map e7R (FM (e.refs.take i))),(3, .box (e.cells.map .iv)),(2, .box [.iv (Ye h x)])]++Ju S x⟩) (fun _=>True) ?_ trivial ?_
 ·simp-dsimp[d4B,Ev.Z8 e]
 ·intro i hi _;simp-dsimp[FT];have qG:=XR.refs;refine⟨fun ZV=>?_,fun X3=>?_⟩
  ·obtain⟨r,hr⟩:=Zw ZV;have hw:=Zo (n:=(i:Int)+1) (by omega)
   have YL:e.refs.take (i+1)=e.refs.take i++[r]:=by rw[a1J,hr];rfl
   simp-dsimp[hr,hw,Rf.Z8 r,d5B,YL];exact ZV
  ·rw[a2B X3];simp-dsimp[Ev.Z8 e];refine Yk (c8u h e.table x) rfl (by simp) (by simp) (by simp) (by simp) ?_;simp-dsimp
   have XS:Ob.box [AV.iv (ci e.txn),AV.iv (ci e.kind),AV.iv (ci e.level),AV.iv (ci e.table),AV.iv (cb e.key.text),AV.iv (ci e.key.n),AV.iv (IV.v (Value.string e.key.s)),
    AV.iv (ci e.ZX.txn),AV.iv (ci e.ZX.n),AV.iv (ci e.n),AV.iv (IV.Z6 3 (YM e.row)),
    AV.iv (ci e.pred.op),AV.iv (ci e.pred.col),AV.iv (cb e.pred.v.text),AV.iv (ci e.pred.v.n),
    AV.iv (IV.v (Value.string e.pred.v.s)),AV.iv (cb e.pred.w.text),AV.iv (ci e.pred.w.n),
    AV.iv (IV.v (Value.string e.pred.w.s)),AV.iv (IV.Z6 9 (List.map Pd.cells e.pred.l)),
    AV.iv (IV.Z6 5 (Nn e.refs)),AV.iv (cb e.cur)]= .box (e.cells.map .iv):=by rw[Ev.Z8 e];rfl
   rw[XS]
   refine c2d [902,903] [7,9] 990 [(29, .fn UJ [] [.val (.pt [Ye h x]), .val (.pt [ci e.table])]),(4, .ptr 4 0),(3, .ptr 3 0),(2, .ptr 2 0)] (fun p=>∃i,p=TE h ((h.order.take i).filter (UG e.table)))
    (fun p=>(4, .box [.mpr 12])::(12, .map e7R (FM e.refs))::(3, .box (e.cells.map .iv))::(2, .box [.iv (Ye h x)])::Ju (UQ S (QL h e) (ML p)) x) (c6u P8 e.table x hc) ?_ (by simp) c9u (by decide) (by simp) (by simp) ?_ ⟨0,rfl⟩ ?_ ?_
   ·simp-dsimp[ML,d7O]
   ·rintro pre _ ⟨i,o,_,_,_,rfl⟩;rfl
   ·rintro vs _ _ ⟨j,rfl⟩ ⟨i,o,ho,ht,OY,rfl⟩;have YL:=c5u (table:=e.table) ho;rw[if_pos ht]at YL;rw[OY]
    have hrw:TE h ((h.order.take i).filter (UG e.table))++[US h o]=TE h ((h.order.take (i+1)).filter (UG e.table)):=by
     rw[YL];simp[TE]
    refine⟨⟨i+1,hrw⟩,?_⟩
    have WZ:ML (TE h ((h.order.take i).filter (UG e.table))++[US h o])=ML (TE h ((h.order.take i).filter (UG e.table)))++[o.key]:=by
     unfold ML;rw[a6M];rfl
    have Uj:US h o=[o.key.av, .iv (.Z6 2 (VI (Zr h.events h.order e.table o.key)))]:=by unfold US;rw[ht]
    have hlen:=hc o.key;have hP:=b3z h.events h.order e.table o.key (Wb e.refs o.key) Zf hlen
    have hCh:∀n:Int,ZU prog true L2 [.iv (X8 h.events h.order),vi e.table,o.key.av,vi n,e.pred.av] [] (vb (Uz h.events h.order e.table o.key n e.pred)) []:=fun n=>b7O h.events h.order e.table o.key n XR.pred Zf hlen
    rw[WZ,Uj];simp-dsimp[J9,J8,UU,St.set_mk,X0,d6B,Ev.Z8 e];simp-dsimp[Ye];refine Zu hP (by simp) (by simp) ?_
    by_cases Vd:Yg h.events h.order e.table o.key (Wb e.refs o.key)<0\/(Wb e.refs o.key).txn=e.txn
    ·have hK:QL h e o.key=[]:=by unfold QL;rw[if_pos Vd]
     rw[d9O _ _ _ _ hK]
     by_cases h0:Yg h.events h.order e.table o.key (Wb e.refs o.key)<0
     ·simp-dsimp[h0];rfl
     ·have h1:=Vd.resolve_left h0;simp-dsimp[h0,h1];rfl
    ·have h0:¬Yg h.events h.order e.table o.key (Wb e.refs o.key)<0:=fun g=>Vd (.inl g)
     have h1:¬(Wb e.refs o.key).txn=e.txn:=fun g=>Vd (.inr g)
     have hK:QL h e o.key=(a0I (Zr h.events h.order e.table o.key).length).flatMap (Qi h e o.key (Yg h.events h.order e.table o.key (Wb e.refs o.key))):=by unfold QL;rw[if_neg Vd]
     rw[d8O _ (QL h e) _ o.key (Qi h e o.key (Yg h.events h.order e.table o.key (Wb e.refs o.key))) (Zr h.events h.order e.table o.key).length (fun m=>by rw[hK];exact mem_range)]
     have hf:∀q,Qi h e o.key (Yg h.events h.order e.table o.key (Wb e.refs o.key)) q=if Uz h.events h.order e.table o.key q e.pred=true then
      [if(q:Int)<=Yg h.events h.order e.table o.key (Wb e.refs o.key)then⟨(((Zr h.events h.order e.table o.key)[q]?).getD ⟨0,0⟩).txn,e.txn,3,e.table,o.key,false⟩else⟨e.txn,(((Zr h.events h.order e.table o.key)[q]?).getD ⟨0,0⟩).txn,5,e.table,o.key,false⟩]else[]:=fun q=>rfl
     generalize Qi h e o.key (Yg h.events h.order e.table o.key (Wb e.refs o.key))=f at hf⊢;generalize Yg h.events h.order e.table o.key (Wb e.refs o.key)=p at*;generalize UQ S (QL h e) (ML (TE h ((h.order.take i).filter (UG e.table))))=S0;generalize Zr h.events h.order e.table o.key=c at*;simp-dsimp[h0,h1]
     refine YZ [] [] c.length (fun q=>⟨[(55,vi q),(54,vi c.length),(10,vi p),(8, .iv (.Z6 2 (VI c))),(7, .ptr 7 0),(3, .ptr 3 0),(2, .ptr 2 0)],
      [(
       9, .box ((Wb e.refs o.key).cells.map .iv)),(7, .box (o.key.cells.map .iv)),(990, .gh ZT vs [.fn UJ [] [.val (.pt [Ye h x]), .val (.pt [ci e.table])], .ptr 4 0, .ptr 3 0, .ptr 2 0]),
       (4, .box [.mpr 12]),(12, .map e7R (FM e.refs)),(3, .box (e.cells.map .iv)),(2, .box [.iv (Ye h x)])]++Ju (XU S0 f q) x⟩) (fun _=>True) ?_ trivial ?_
     ·simp-dsimp[rD,Ev.Z8 e,Ye]
     ·intro q hq _;have hP9:a7U 9 (c3R 11 (e.cells.map AV.iv))=e.pred.cells.map AV.iv:=Ev.tR e;simp-dsimp[Ka,Ev.Z8 e];simp-dsimp[Ye];refine⟨fun ZV=>?_,fun X3=>?_⟩
      ·obtain⟨v,hv⟩:=Zw ZV;have hw:=Zo (n:=(q:Int)+1) (by omega);refine Zu (hCh q) (by simp[Pd.Z4]) (by simp[Pd.Z4]) ?_;have EI:=hf q;rw[hv]at EI
       cases Ry:Uz h.events h.order e.table o.key q e.pred with
       |false=>
        rw[Ry,if_neg (by simp)]at EI;have QW:=d5O (S:=S0) EI;simp-dsimp[Ry,hw,QW];exact⟨ZV,rfl⟩
       |true=>
        rw[Ry,if_pos rfl]at EI
        by_cases hle:(q:Int)<=p
        ·rw[if_pos hle]at EI;have QW:=d6O (S:=S0) EI;simp-dsimp[Ry,hle,hv];refine TB (d3O h (XU S0 f q) x ⟨v.txn,e.txn,3,e.table,o.key,false⟩) rfl (by simp) (by simp[Eg.av,Eg.cells,Ye]) (by simp[Eg.av,Eg.cells]) (by simp) (by simp) (by simp) (by simp) ?_;have FL:Rx (XU S0 f q) ⟨v.txn,e.txn,3,e.table,o.key,false⟩=XU S0 f (q+1):=QW.symm
         rw[FL];simp-dsimp[hw];exact⟨ZV,rfl⟩
        ·rw[if_neg hle]at EI;have QW:=d6O (S:=S0) EI;simp-dsimp[Ry,hle,hv];refine TB (d3O h (XU S0 f q) x ⟨e.txn,v.txn,5,e.table,o.key,false⟩) rfl (by simp) (by simp[Eg.av,Eg.cells,Ye]) (by simp[Eg.av,Eg.cells]) (by simp) (by simp) (by simp) (by simp) ?_;have FL:Rx (XU S0 f q) ⟨e.txn,v.txn,5,e.table,o.key,false⟩=XU S0 f (q+1):=QW.symm
         rw[FL];simp-dsimp[hw];exact⟨ZV,rfl⟩
      ·rw[show q=c.length by omega]
   ·rintro vs _ _ hS;rw[hS,d2r];simp-dsimp[X0]
def rf:List Int->Int->Int
 | [],z=>z
 |d::r,z=>if d≠0 then d else rf r z
theorem c8W(a b:Eg):ZU prog true H9 [a.av,b.av] [] (vi (a.N3 b)) []:=by
 have hc:a.N3 b=rf [IntKind.i64.wrap (a.ZX-b.ZX),IntKind.i64.wrap (a.to-b.to),IntKind.i64.wrap (a.kind-b.kind),IntKind.i64.wrap (a.table-b.table)] (a.key.cmp b.key):=rfl;rw[hc];refine YD e4B (by simp[Eg.av]) (by decide) rfl ?_;simp-dsimp[d0h,Eg.av,Eg.cells,Zc];generalize IntKind.i64.wrap (a.ZX-b.ZX)=d0;generalize IntKind.i64.wrap (a.to-b.to)=d1
 generalize IntKind.i64.wrap (a.kind-b.kind)=d2;generalize IntKind.i64.wrap (a.table-b.table)=d3
 refine YZ [] [] 4 (fun i=>⟨[(28,vi i),(27, .agg [vi d0,vi d1,vi d2,vi d3]),(2, .ptr 2 0),(3, .ptr 3 0)],[(2, .box (a.cells.map .iv)),(3, .box (b.cells.map .iv))]⟩)
  (fun i=>(0<i->d0=0)/\(1<i->d1=0)/\(2<i->d2=0)/\(3<i->d3=0)) ?_ (by omega) ?_
 ·simp-dsimp[Eg.cells]
 ·intro i hi ⟨q0,q1,q2,q3⟩;have w1:IntKind.i64.wrap 1=1:=Zo (by omega);have w2:IntKind.i64.wrap 2=2:=Zo (by omega);have w3:IntKind.i64.wrap 3=3:=Zo (by omega);have w4:IntKind.i64.wrap 4=4:=Zo (by omega)
  have Ya:i=0\/i=1\/i=2\/i=3\/i=4:=by omega
  rcases Ya with rfl|rfl|rfl|rfl|rfl
  ·by_cases h0:d0=0
   ·simp-dsimp[Wp,h0,Eg.cells,w1]
   ·simp-dsimp[Wp,h0,rf]
  ·have q0:=q0 (by omega)
   by_cases h0:d1=0
   ·simp-dsimp[Wp,h0,q0,Eg.cells,w2]
   ·simp-dsimp[Wp,h0,rf,q0]
  ·have q0:=q0 (by omega);have q1:=q1 (by omega)
   by_cases h0:d2=0
   ·simp-dsimp[Wp,h0,q0,q1,Eg.cells,w3]
   ·simp-dsimp[Wp,h0,rf,q0,q1]
  ·have q0:=q0 (by omega);have q1:=q1 (by omega);have q2:=q2 (by omega)
   by_cases h0:d3=0
   ·simp-dsimp[Wp,h0,q0,q1,q2,Eg.cells,w4]
   ·simp-dsimp[Wp,h0,rf,q0,q1,q2]
  ·have q0:=q0 (by omega);have q1:=q1 (by omega);have q2:=q2 (by omega);have q3:=q3 (by omega);simp-dsimp[Wp,q0,q1,q2,q3,rf,Eg.cells];refine Zu (b3u a.key b.key) (by simp) (by simp) ?_;simp-dsimp[rf,q0,q1,q2,q3]
theorem c9W(a b:Eg):ZU prog true UK [a.av,b.av] [] (vi (a.cmp b)) []:=by
 refine YD e5B (by simp[Eg.av]) (by decide) rfl ?_
 have hc:a.cmp b=if a.N3 b≠0\/a.ZN=b.ZN then a.N3 b else if b.ZN=true then-1 else 1:=rfl
 have hs:=c8W a b;rw[hc];generalize a.N3 b=c at*;simp-dsimp[a0k,Eg.av,Eg.cells];refine Zu hs (by simp[Eg.av,Eg.cells]) (by simp[Eg.av,Eg.cells]) ?_
 by_cases h0:c=0
 ·cases hca:a.ZN<;>cases QM:b.ZN<;>simp-dsimp[h0]
 ·simp-dsimp[h0]
theorem c0X(a b:Eg)(ha:a.key.s.size<2^63):ZU prog true HV [a.av,b.av] [] (vb (a.lss b)) []:=by
 refine YD e6B (by simp[Eg.av]) (by decide) rfl ?_;unfold Eg.lss;have hs:=b0v a.key b.key ha;generalize a.key.cmp b.key=c at*
 by_cases h1:a.ZX=b.ZX
 ·by_cases h2:a.to=b.to
  ·by_cases h3:a.kind=b.kind
   ·by_cases h4:a.table=b.table
    ·simp-dsimp[a9k,Eg.av,Eg.cells,h1,h2,h3,h4];refine Zu hs (by simp) (by simp) ?_
     by_cases h5:c=0
     ·cases hca:a.ZN<;>simp-dsimp[h5]
     ·simp-dsimp[h5]
    ·simp-dsimp[a9k,Eg.av,Eg.cells,h1,h2,h3,h4]
   ·simp-dsimp[a9k,Eg.av,Eg.cells,h1,h2,h3]
  ·simp-dsimp[a9k,Eg.av,Eg.cells,h1,h2]
 ·simp-dsimp[a9k,Eg.av,Eg.cells,h1]
end Go.Rt
end

section
namespace Go.Vm
open Go.Sort (Holds HoldsK putRow putRowK flatK grow putCells mapBlock)
open Go.Proofs (sortWorldK)
set_option linter.unusedSectionVars false
section
variable{α:Type}[Inhabited α]
def UE(enc:α->List Value)(x:α):List IV:=(enc x).map IV.v
theorem c4R{enc:α->List Value}{xs:List α}{i j:Nat}{c:IV}(h:at2 (xs.map (UE enc)) i j=some c):∃x v,xs[i]? =some x/\(enc x)[j]? =some v/\c= .v v:=by
 unfold at2 at h;rw[a0C]at h
 cases hx:xs[i]? with
 |none=>rw[hx]at h;simp at h
 |some x=>
  rw[hx]at h;simp only[a4G,Option.bind_some,UE,a0C]at h
  cases hv:(enc x)[j]? with
  |none=>rw[hv]at h;simp at h
  |some v=>rw[hv]at h;simp at h;exact⟨x,v,rfl,hv,h.symm⟩
theorem c5R{enc:α->List Value}{xs:List α}{i j:Nat}{x:α}{v:Value}(hx:xs[i]? =some x)(hv:(enc x)[j]? =some v):at2 (xs.map (UE enc)) i j=some (.v v):=by
 unfold at2;rw[a0C,hx];simp[UE,hv]
theorem c6R{A:Nat->Prop}{w:World}{u v:Value}(h:YB A w (.v u) v):v=u:=by cases h;rfl
theorem c7R{l:List α}{i:Nat}{x:α}(h:l[i]? =some x):l.toArray[i]! =x:=by
 obtain⟨h1,h2⟩:=a7y.1 h;simp[h1,h2]
theorem c8R{l:List Value}{i:Nat}{x:Value}(h:l[i]? =some x):l[i]! =x:=by
 obtain⟨h1,h2⟩:=a7y.1 h;simp[h1,h2]
theorem c9R{P:Program}{f g:FuncId}(k:Nat)(RH:0<k)(enc:α->List Value)(hk:∀x,(enc x).length=k)(h1:∀x,∀v∈enc x,v.oneCell'=true)(F:List α->List α)(hF:∀l,(F l).length=l.length)
 (hs:∀(R8 off cap:Nat) (zs:List α) (w:World),HoldsK enc k w R8 off zs.toArray->R8<w.heap.size->zs.length<4611686018427387904->
  Calls P f #[.slice (some ⟨R8,off,none⟩) zs.length cap, .func (.func g) #[] #[]] w fun e w'=>e= .returned (.tuple #[])/\∃n os,w'=sortWorldK enc k w R8 off n (F zs).toArray os)
 (hn:∀(p:Option Addr) (cap:Nat) (fv:Value) (w:World),Calls P f #[.slice p 0 cap,fv] w fun e w'=>e= .returned (.tuple #[])/\w'=w)
 (xs:List α) (hl:xs.length<2^62):ZU P false f [.sl 1000 k 0 xs.length, .fn g [] []] [(1000, .list k (xs.map (UE enc)))] (.Zp []) [(1000, .list k ((F xs).map (UE enc)))]:=by
 have hlen:(F xs).length=xs.length:=hF xs
 have WK:∀{o:Ob} {id:Nat} {q:Ob},look [(1000,o)] id=some q->id=1000/\q=o:=by
  intro o id q h;simp only[look]at h;split at h
  ·exact⟨by omega,by cases h;rfl⟩
  ·cases h
 refine⟨⟨fun id o h=>by obtain⟨_,rfl⟩:=WK h;rfl,fun id o h=>by obtain⟨_,rfl⟩:=WK h;rfl⟩,?_⟩
 intro A ψ w vs hA Uh hinj Ue Vu LD Q7;have ho:=Uh 1000 (.list k (xs.map (UE enc))) rfl;have hr:=Q7 0 _ rfl;have hg:=Q7 1 _ rfl
 obtain⟨v,fv,rfl⟩:∃v fv,vs=[v,fv]:=by
  match vs,LD with
  | [v,fv],_=>exact⟨v,fv,rfl⟩
 simp only[b4P,a9E,a2I,a2L]at hr hg
 obtain rfl:fv= .func (.func g) #[] #[]:=by
  cases hg with
  |fn _ _ _ vf vc hf hc _ _=>
   obtain rfl:vf= #[]:=b8T (by simpa using hf);obtain rfl:vc= #[]:=b8T (by simpa using hc);rfl
 have key:∀(w':World),w.heap.size<=w'.heap.size->RJ w w'->(∀b,b<w.heap.size->¬ZD ψ [(1000, .list k (xs.map (UE enc)))] b->w'.heap[b]? =w.heap[b]?)->
  Xa (fun b=>((false=false/\A b)\/w.heap.size<=b)/\¬ZD ψ [(1000, .list k ((F xs).map (UE enc)))] b) ψ [(1000, .list k ((F xs).map (UE enc)))] w' 1000 (.list k ((F xs).map (UE enc)))->
  ∃v ZF,(Ending.returned (.tuple #[]):Ending)= .returned v∧
  (∀b,b<w.heap.size->¬ZD ψ [(1000, .list k (xs.map (UE enc)))] b->w'.heap[b]? =w.heap[b]?)/\w.heap.size<=w'.heap.size/\RJ w w'∧
  (∀id o,look [(1000,Ob.list k (xs.map (UE enc)))] id=some o->ZF.main id=ψ id)∧
  (∀id o b,look [(1000,Ob.list k ((F xs).map (UE enc)))] id=some o->Z2 ZF id b->(∃o0,look [(1000,Ob.list k (xs.map (UE enc)))] id=some o0/\Z2 ψ id b)\/w.heap.size<=b)∧
  (∀id XP o o' b,look [(1000,Ob.list k ((F xs).map (UE enc)))] id=some o->look [(1000,Ob.list k ((F xs).map (UE enc)))] XP=some o'->Z2 ZF id b->Z2 ZF XP b->id=XP)/\Uv ZF [(1000, .list k ((F xs).map (UE enc)))] w'∧
  (∀id o,look [(1000,Ob.list k ((F xs).map (UE enc)))] id=some o->Xa (fun b=>((false=false/\A b)\/w.heap.size<=b)/\¬ZD ZF [(1000, .list k ((F xs).map (UE enc)))] b) ZF [(1000, .list k ((F xs).map (UE enc)))] w' id o)∧
  ZK (fun b=>((false=false/\A b)\/w.heap.size<=b)/\¬ZD ZF [(1000, .list k ((F xs).map (UE enc)))] b) ZF [(1000, .list k ((F xs).map (UE enc)))] w' (.Zp []) v:=by
  intro w' h1 h2 h3 h4;refine⟨.tuple #[],ψ,rfl,h3,h1,h2,fun _ _ _=>rfl,fun id o b h hb=> .inl ?_,fun id XP o o' b h h' _ _=>?_,fun id o b h hb=>?_,fun id o h=>?_, .Zp [] #[] rfl (fun i c h=>by simp at h)⟩
  ·obtain⟨rfl,rfl⟩:=WK h;exact⟨.list k (xs.map (UE enc)),rfl,hb⟩
  ·obtain⟨rfl,_⟩:=WK h;obtain⟨rfl,_⟩:=WK h';rfl
  ·obtain⟨rfl,rfl⟩:=WK h;have:=(Ue 1000 (.list k (xs.map (UE enc))) b rfl hb).1;cases this
  ·obtain⟨rfl,rfl⟩:=WK h;exact h4
 obtain⟨UY,ho⟩:=ho
 have hwF:∀x∈(F xs).map (UE enc),x.length=k:=by
  intro x hx;obtain⟨y,_,rfl⟩:=a3E.1 hx;simp[UE,hk]
 by_cases hx:xs=[]
 ·subst hx
  have hv:∃p cap,v= .slice p 0 cap:=by
   cases hr with
   |U4=>exact⟨_,_,rfl⟩
   |sl=>exact⟨_,_,rfl⟩
  obtain⟨p,cap,rfl⟩:=hv;refine(hn p cap _ w).mono ?_;rintro e w' ⟨rfl,rfl⟩;refine key w' (a8F _) ⟨rfl,rfl,rfl,a8F _⟩ (fun _ _ _=>rfl) ?_;have hso:F []=[]:=a8R (by simpa using hF []);rw[hso];refine⟨UY,?_⟩
  rcases ho with⟨g1,g2⟩|⟨b,k',c,e,g1,g2,g3,g4,g5⟩
  ·exact .inl ⟨g1,g2⟩
  ·exact .inr ⟨b,k',c,e,g1,g2,g3,g4,fun i j x h=>by simp[at2]at h⟩
 ·have Yy:=a6I.2 hx
  rcases ho with⟨_,g2⟩|⟨b,q,c,e,g1,g2,g3,g4,g5⟩
  ·exact absurd (by simpa using g2) hx
  ·obtain⟨cap,rfl⟩:∃cap,v= .slice (some ⟨b,q.1,none⟩) xs.length cap:=by
    generalize hlx:xs.length=n at hr Yy
    cases hr with
    |U4=>omega
    |sl id sz lo len b' k' cap a o n' XQ he hxx hb ha UO R7 hm=>
     rw[g1]at hb;cases hb;have:=ha (by omega);rw[Nat.zero_mul,b1P]at this;subst this;exact⟨cap,rfl⟩
   have DY:b<w.heap.size:=VJ g2;have hB:ZD ψ [(1000, .list k (xs.map (UE enc)))] b:=⟨1000, .list k (xs.map (UE enc)),rfl, .inl ⟨q,g1⟩⟩;rw[a6S]at g4
   have hH:HoldsK enc k w b q.1 xs.toArray:=by
    intro t ht;rw[Go.Sort.size_flatK,b8S]at ht;rw[Go.Sort.get_flatK _ _ _ _ (by simpa using ht)];have hi:t/k<xs.length:=Nat.div_lt_of_lt_mul (by rw[c5w];exact ht);have hj:t%k<k:=Nat.mod_lt _ RH;obtain⟨x,hxx⟩:∃x,xs[t/k]? =some x:=⟨_,a3I hi⟩
    obtain⟨u,hu⟩:∃u,(enc x)[t%k]? =some u:=⟨_,a3I (by rw[hk];exact hj)⟩;rw[c7R hxx,c8R hu];have h5:=c6R (g5 _ _ _ (c5R hxx hu))
    have MC:t/k*k+t%k=t:=by rw[c5w];exact Nat.div_add_mod t k
    rw[MC]at h5
    have hcs:q.1+t<c.size:=by omega
    rw[a4E,a2S hcs]at h5;constructor
    ·simp only[World.cell?,g2];rw[a2S hcs];simpa using h5
    ·simp only[World.frozen?,g2];simp
   refine(hs b q.1 cap xs w hH DY (by omega)).mono ?_;rintro ex w' ⟨rfl,n,os,rfl⟩
   have hfl:(flatK enc k (F xs).toArray).size=xs.length*k:=by rw[Go.Sort.size_flatK,b8S,hlen]
   unfold sortWorldK putRowK
   have Yd:(putRow id (Go.Sort.ahead w n) b q.1 (flatK enc k (F xs).toArray)).heap.size=w.heap.size:=by simp[putRow,mapBlock,Go.Sort.ahead]
   have M3:∀i,i≠b->i<w.heap.size->(grow (putRow id (Go.Sort.ahead w n) b q.1 (flatK enc k (F xs).toArray)) os).heap[i]? =w.heap[i]? :=by
    intro i hi ZV;rw[Go.Sort.heap_grow_old _ _ (by rw[Yd];exact ZV)];simp only[putRow,mapBlock,Go.Sort.ahead,a1Q];rw[if_neg (Ne.symm hi)]
   have Gi:(grow (putRow id (Go.Sort.ahead w n) b q.1 (flatK enc k (F xs).toArray)) os).heap[b]? =some (.cells (putCells id q.1 (flatK enc k (F xs).toArray) c) e (0,0)):=by
    rw[Go.Sort.heap_grow_old _ _ (by rw[Yd];exact DY)];simp only[putRow,mapBlock,Go.Sort.ahead,a1Q,if_true];rw[g2];rfl
   refine key _ (by rw[Go.Sort.size_grow,Yd];omega) ⟨rfl,rfl,rfl,Nat.le_add_right _ _⟩ (fun i hi hh=>M3 i (fun e=>hh (e▸hB)) hi) ?_;refine⟨hwF, .inr ⟨b,q,_,e,g1,Gi,?_,?_,fun i j x h=>?_⟩⟩
   ·simp only[putCells,c4H];exact g3
   ·rw[a6S,hlen];exact g4
   ·obtain⟨y,u,hy,hu,rfl⟩:=c4R h;have Zb:=(a7y.1 hy).1;have RO:=(a7y.1 hu).1;rw[hlen]at Zb;rw[hk]at RO
    have Yq:i*k+j<xs.length*k:=by
     have:=a5E k (show i+1<=xs.length from Zb);rw[a8M,d5S]at this;omega
    have ZV:q.1+(i*k+j)<(putCells id q.1 (flatK enc k (F xs).toArray) c).size:=by simp only[putCells,c4H];omega
    have e1:(i*k+j)/k=i:=(Go.Sort.blk_iff k i _ RH).1 ⟨by omega,by omega⟩
    have e2:(i*k+j)%k=j:=by rw[Nat.mod_eq_sub_div_mul,e1];omega
    have:(putCells id q.1 (flatK enc k (F xs).toArray) c).getD (q.1+(i*k+j)) undef=u:=by
     rw[a4E,a2S ZV,a2L];simp only[putCells,Array.getElem_mapIdx];rw[if_pos (by rw[hfl];omega)]
     have e3:q.1+(i*k+j)-q.1=i*k+j:=by omega
     rw[e3,Go.Sort.get_flatK _ _ _ _ (by rw[b8S,hlen];exact Yq),e1,e2,c7R hy,c8R hu];rfl
    rw[this];exact .v _ (h1 y u (a8y hu))
end
theorem c0S{P:Program}{f g:FuncId}(k:Nat)
 (hn:∀(p:Option Addr) (cap:Nat) (fv:Value) (w:World),Calls P f #[.slice p 0 cap,fv] w fun e w'=>e= .returned (.tuple #[])/\w'=w):ZU P true f [.iv (.Z6 k []), .fn g [] []] [] (.Zp []) []:=by
 refine⟨⟨fun id o h=>(by cases h),fun id o h=>by cases h⟩,?_⟩;intro A ψ w vs hA Uh hinj Ue Vu LD Q7;have hr:=Q7 0 _ rfl
 obtain⟨v,fv,rfl⟩:∃v fv,vs=[v,fv]:=by
  match vs,LD with
  | [v,fv],_=>exact⟨v,fv,rfl⟩
 simp only[b4P,a9E,a2L]at hr
 have hv:∃p cap,v= .slice p 0 cap:=by
  cases hr with
  |iv _ _ h=>
   generalize hx:IV.Z6 k []=x at h
   cases h<;>try cases hx
   ·exact⟨_,_,rfl⟩
   ·exact⟨_,_,rfl⟩
 obtain⟨p,cap,rfl⟩:=hv;refine(hn p cap fv w).mono ?_;rintro e w' ⟨rfl,rfl⟩;refine⟨.tuple #[],ψ,rfl,fun _ _ _=>rfl,a8F _,⟨rfl,rfl,rfl,a8F _⟩,fun _ _ _=>rfl,fun id o b h=>(by cases h),fun id XP o o' b h=>(by cases h),fun id o b h=>(by cases h),fun id o h=>(by cases h), .Zp [] #[] rfl (fun i c h=>by simp at h)⟩
end Go.Vm
end

section
namespace Go.Proofs
open Go.Shelf
def Tryz.sortF_ren:Go.Shelf.Ren:=⟨fun| 6=>69| 15=>115| 14=>114| 28=>162| 29=>163| 20=>154| 21=>155| 22=>156| 23=>157| 24=>158| 25=>159| 26=>160| 27=>161| 46=>194| 47=>195| 48=>196| 49=>197| 50=>198| 57=>213|n=>n,fun| 22=>30| 24=>37| 25=>86| 3=>3| 39=>135| 0=>0| 53=>177| 55=>179| 4=>4| 46=>170| 45=>169| 50=>174| 5=>5| 9=>9| 66=>209| 70=>213| 76=>226| 77=>227|n=>n,fun|n=>n⟩
theorem Tryz.sortF:Go.Proofs.SlLaysF0.n6 Tryz.prog Tryz.sortF_ren:={
 mixed:=by kernel_rfl
 f6:=⟨Tryz.f69.name,by decide,Tryz.func69.trans (congrArg some (by kernel_rfl))⟩
 f14:=⟨Tryz.f114.name,by decide,Tryz.func114.trans (congrArg some (by kernel_rfl))⟩
 f15:=Tryz.func115.trans (congrArg some (by kernel_rfl))
 f20:=⟨Tryz.f154.name,by decide,Tryz.func154.trans (congrArg some (by kernel_rfl))⟩
 f21:=⟨Tryz.f155.name,by decide,Tryz.func155.trans (congrArg some (by kernel_rfl))⟩
 f22:=⟨Tryz.f156.name,by decide,Tryz.func156.trans (congrArg some (by kernel_rfl))⟩
 f23:=⟨Tryz.f157.name,by decide,Tryz.func157.trans (congrArg some (by kernel_rfl))⟩
 f24:=⟨Tryz.f158.name,by decide,Tryz.func158.trans (congrArg some (by kernel_rfl))⟩
 f25:=⟨Tryz.f159.name,by decide,Tryz.func159.trans (congrArg some (by kernel_rfl))⟩
 f26:=⟨Tryz.f160.name,by decide,Tryz.func160.trans (congrArg some (by kernel_rfl))⟩
 f27:=⟨Tryz.f161.name,by decide,Tryz.func161.trans (congrArg some (by kernel_rfl))⟩
 f28:=Tryz.func162.trans (congrArg some (by kernel_rfl))
 f29:=Tryz.func163.trans (congrArg some (by kernel_rfl))
 f46:=⟨Tryz.f194.name,by decide,Tryz.func194.trans (congrArg some (by kernel_rfl))⟩
 f47:=Tryz.func195.trans (congrArg some (by kernel_rfl))
 f48:=Tryz.func196.trans (congrArg some (by kernel_rfl))
 f49:=⟨Tryz.f197.name,by decide,Tryz.func197.trans (congrArg some (by kernel_rfl))⟩
 f50:=⟨Tryz.f198.name,by decide,Tryz.func198.trans (congrArg some (by kernel_rfl))⟩
 f57:=⟨Tryz.f213.name,by decide,Tryz.func213.trans (congrArg some (by kernel_rfl))⟩
 t0:=Tryz.underlying0
 a0:=Tryz.isAgg0
 z0:=Tryz.sizeOf0
 v0:=Tryz.zeroValue0
 t3:=Tryz.underlying3
 a3:=Tryz.isAgg3
 z3:=Tryz.sizeOf3
 v3:=Tryz.zeroValue3
 t4:=Tryz.underlying4
 a4:=Tryz.isAgg4
 z4:=Tryz.sizeOf4
 v4:=Tryz.zeroValue4
 t5:=Tryz.underlying5
 a5:=Tryz.isAgg5
 z5:=Tryz.sizeOf5
 v5:=Tryz.zeroValue5
 t9:=Tryz.underlying9
 a9:=Tryz.isAgg9
 z9:=Tryz.sizeOf9
 v9:=Tryz.zeroValue9
 t22:=Tryz.underlying30
 a22:=Tryz.isAgg30
 z22:=Tryz.sizeOf30
 v22:=Tryz.zeroValue30
 t25:=Tryz.underlying86
 a25:=Tryz.isAgg86
 z25:=Tryz.sizeOf86
 v25:=Tryz.zeroValue86
 t39:=Tryz.underlying135
 a39:=Tryz.isAgg135
 z39:=Tryz.sizeOf135
 v39:=Tryz.zeroValue135
 t45:=Tryz.underlying169
 a45:=Tryz.isAgg169
 z45:=Tryz.sizeOf169
 v45:=Tryz.zeroValue169
 t46:=Tryz.underlying170
 a46:=Tryz.isAgg170
 z46:=Tryz.sizeOf170
 v46:=Tryz.zeroValue170
 t50:=Tryz.underlying174
 a50:=Tryz.isAgg174
 z50:=Tryz.sizeOf174
 v50:=Tryz.zeroValue174
 t53:=Tryz.underlying177
 a53:=Tryz.isAgg177
 z53:=Tryz.sizeOf177
 v53:=Tryz.zeroValue177
 t55:=Tryz.underlying179
 a55:=Tryz.isAgg179
 z55:=Tryz.sizeOf179
 v55:=Tryz.zeroValue179
 t66:=Tryz.underlying209
 a66:=Tryz.isAgg209
 z66:=Tryz.sizeOf209
 v66:=Tryz.zeroValue209
 t70:=Tryz.underlying213
 a70:=Tryz.isAgg213
 z70:=Tryz.sizeOf213
 v70:=Tryz.zeroValue213
 t76:=Tryz.underlying226
 a76:=Tryz.isAgg226
 z76:=Tryz.sizeOf226
 v76:=Tryz.zeroValue226
 t77:=Tryz.underlying227
 a77:=Tryz.isAgg227
 z77:=Tryz.sizeOf227
 v77:=Tryz.zeroValue227}
open Go.Sort Go.RowKit Go.Lib in
theorem Tryz.slices_SortFunc_none(p:Option Addr)(cap:Nat)(fv:Value)(w:World):
 Calls Tryz.prog 69 #[.slice p 0 cap,fv] w fun e w'=>e= .returned (.tuple #[])/\w'=w:=AnyF.slices_SortFunc_none Tryz.sortF p cap fv w
end Go.Proofs
end

section
namespace Go.Rt
open Go.Vm
def S3(e:Eg):List Value:=[.int .i64 e.ZX, .int .i64 e.to, .int .i64 e.kind, .int .i64 e.table, .bool e.key.text, .int .i64 e.key.n, .string e.key.s, .bool e.ZN]
abbrev Rv:={e:Eg//e.D}
instance:Inhabited Rv:=⟨⟨⟨0,0,0,0,Vl.zero,false⟩,⟨by unfold Eg.Rt Vl.right Vl.zero;decide,by decide,by decide,by decide,by decide⟩⟩⟩
theorem d4l{w w':World}(h1:∀b,b<w.heap.size->w'.heap[b]? =w.heap[b]?)(h2:w.heap.size<=w'.heap.size)(h3:RJ w w'):∃q os,w'=Go.Sort.grow (w.drewN q) os:=by
 refine⟨w'.drawn-w.drawn,w'.heap.extract w.heap.size w'.heap.size,?_⟩;obtain⟨heap,tape,drawn,os,output⟩:=w;obtain⟨J5,g6m,f6W,os',f7B⟩:=w';obtain⟨e1,e2,e3,e4⟩:=h3;simp only at e1 e2 e3 e4 h1 h2;subst e1 e2 e3
 have hh:J5=heap++J5.extract heap.size J5.size:=by
  apply Array.ext_getElem?;intro i
  by_cases hi:i<heap.size
  ·rw[h1 i hi,Array.getElem?_append_left hi]
  ·rw[Array.getElem?_append_right (by omega),Array.getElem?_extract]
   by_cases pY:i<J5.size
   ·rw[if_pos (by omega)]
    congr 1;omega
   ·rw[if_neg (by omega),Array.getElem?_eq_none (by omega)]
 unfold Go.Sort.grow World.drewN;simp only[World.mk.injEq,true_and,and_true];exact⟨hh,by omega⟩
theorem d5l(R8 off size:Nat)(w:World):Go.Proofs.CmpLays prog UK #[] (fun e:Rv=>S3 e.1) 8 (fun a b=>a.1.cmp b.1) R8 off size w:=by
 intro m os dk _ x y;generalize Go.Proofs.sortWorldK (fun e:Rv=>S3 e.1) 8 w R8 off m dk os=W
 have hav:∀e:Eg,ZK (fun _=>False) pl0 [] W e.av (.agg (S3 e).toArray):=by
  intro e
  refine .agg _ _ rfl fun i c hc=>?_
  have:∃u,(S3 e)[i]? =some u/\c= .iv (.v u)/\u.oneCell'=true:=by
   match i,hc with
   | 0,hc=>cases hc;exact⟨_,rfl,rfl,rfl⟩
   | 1,hc=>cases hc;exact⟨_,rfl,rfl,rfl⟩
   | 2,hc=>cases hc;exact⟨_,rfl,rfl,rfl⟩
   | 3,hc=>cases hc;exact⟨_,rfl,rfl,rfl⟩
   | 4,hc=>cases hc;exact⟨_,rfl,rfl,rfl⟩
   | 5,hc=>cases hc;exact⟨_,rfl,rfl,rfl⟩
   | 6,hc=>cases hc;exact⟨_,rfl,rfl,rfl⟩
   | 7,hc=>cases hc;exact⟨_,rfl,rfl,rfl⟩
   |i+8,hc=>cases hc
  obtain⟨u,h1,rfl,h2⟩:=this
  have:(S3 e).toArray.getD i undef=u:=by
   rw[a4E,List.getElem?_toArray,h1];rfl
  rw[this];exact UP h2
 have h:=(c9W x.1 y.1).2 (fun _=>False) pl0 W [.agg (S3 x.1).toArray, .agg (S3 y.1).toArray] (fun _ h=>h.elim) (fun _ _ h=>by cases h) (fun _ _ _ _ _ h=>by cases h) (fun _ _ _ h=>by cases h)
  (fun b ⟨_,_,h,_⟩=>by cases h) rfl (fun i c hc=>by
   match i,hc with
   | 0,hc=>cases hc;exact hav x.1
   | 1,hc=>cases hc;exact hav y.1
   |i+2,hc=>cases hc)
 refine Calls.mono h ?_;rintro e w' ⟨v,ZF,rfl,k1,k2,k3,_,_,_,_,_,k8⟩;refine⟨by rw[VN k8],d4l (fun b hb=>k1 b hb fun⟨_,_,h,_⟩=>by cases h) k2 k3⟩
theorem d6l(a b:Rv):a.1.cmp b.1=a.1.N2 b.1:=f4k a.2 b.2
theorem qZ(a b:Rv):Go.Proofs.ltOf (fun a b:Rv=>a.1.cmp b.1) a b=a.1.lss b.1:=by
 show decide (a.1.cmp b.1<0)=_
 rw[d6l,b3S,decide_eq_true_eq,c0q]
theorem d8l:Go.Sort.SWO (Go.Proofs.ltOf fun a b:Rv=>a.1.cmp b.1) where
 irrefl:=fun x=>by rw[qZ];exact c3q _
 trans:=fun x y z=>by rw[qZ,qZ,qZ];exact c1q
 ntrans:=fun x y z h1 h2=>by
  rw[qZ]at*
  cases h:x.1.lss z.1 with
  |false=>rfl
  |true=>
   cases h3:y.1.lss x.1 with
   |true=>have:=c1q h3 h;rw[this]at h2;cases h2
   |false=>rw[<-c4q x.2.rt y.2.rt h1 h3]at h2;rw[h2]at h;cases h
theorem d9l(x y:Rv)(h1:Go.Proofs.ltOf (fun a b:Rv=>a.1.cmp b.1) x y=false)(h2:Go.Proofs.ltOf (fun a b:Rv=>a.1.cmp b.1) y x=false):x=y:=by
 rw[qZ]at*;exact Subtype.ext (c4q x.2.rt y.2.rt h1 h2)
theorem d0m:XI prog UK=true:=by kernel_rfl
theorem t24:Go.Proofs.Tryz.sortF_ren.t 24=37:=rfl
theorem f7l:(prog.underlying 37).isSome=true:=by kernel_rfl
theorem d1m:XZ prog 37=true:=by kernel_rfl
theorem f7W:X7 prog 37=some 8:=by kernel_rfl
theorem d2m{P:Program}{t:TypeId}{k:Nat}(h:X7 P t=some k)(w:World):(Go.sizeOf t).run P w= .ok k w:=Go.Vm.run_sizeOf w h
theorem f8l(w:World):(isAgg (Go.Proofs.Tryz.sortF_ren.t 24)).run prog w= .ok true w:=by
 obtain⟨d,hd⟩:=c7w.1 f7l;rw[t24,e4g w hd,d1m]
theorem d3m(w:World):(Go.sizeOf (Go.Proofs.Tryz.sortF_ren.t 24)).run prog w= .ok 8 w:=by
 rw[t24,d2m f7W w]
def d4m(l:List Rv):List Rv:=l.mergeSort fun x y=> !(Go.Proofs.ltOf (fun a b:Rv=>a.1.cmp b.1) y x)
theorem d5m(l:List Rv)(hl:l.length<2^62):ZU prog false ON [.sl 1000 8 0 l.length, .fn UK [] []] [(1000, .list 8 (l.map (UE fun e:Rv=>S3 e.1)))] (.Zp []) [(1000, .list 8 ((d4m l).map (UE fun e:Rv=>S3 e.1)))]:=by
 refine c9R 8 (by decide) (fun e:Rv=>S3 e.1) (fun _=>rfl) (fun x v hv=>?_) d4m (fun l=>d1b l) ?_ (fun p cap fv w=>Go.Proofs.Tryz.slices_SortFunc_none p cap fv w) l hl
 ·simp only[S3,a2E,b8w,or_false]at hv
  rcases hv with rfl|rfl|rfl|rfl|rfl|rfl|rfl|rfl<;>rfl
 ·intro R8 off cap zs w hH hb hs
  have:=Go.Proofs.AnyQ.slices_SortFunc_total Go.Proofs.Tryz.sortF 8 f8l d3m (fun e:Rv=>S3 e.1) (fun _=>rfl) (fun x v hv=>by
   simp only[S3,a2E,b8w,or_false]at hv
   rcases hv with rfl|rfl|rfl|rfl|rfl|rfl|rfl|rfl<;>rfl) (fun a b=>a.1.cmp b.1) d8l UK #[] R8 off cap zs.toArray w (d6W d0m) (d5l R8 off _ w) hH hb (by simpa using hs) d9l
  rw[b8S]at this;exact this
theorem d6m{l:List Eg}(hD:∀e,e∈l->e.D)(WA:l.Nodup)(hl:l.length<2^62):∃r,RE r/\(∀e,e∈r↔e∈l)/\r.length=l.length∧
 ZU prog false ON [.sl 1000 8 0 l.length, .fn UK [] []] [(1000, .list 8 (ZR l))] (.Zp []) [(1000, .list 8 (ZR r))]:=by
 let L:List Rv:=l.attach.map fun e=>⟨e.1,hD e.1 e.2⟩
 have hL:L.map Subtype.val=l:=by simp[L,b6S,b8q]
 have hlen:L.length=l.length:=by simp[L]
 have hp:(d4m L).Perm L:=c7j _ _
 have NF:((d4m L).map Subtype.val).Perm l:=by have:=hp.map Subtype.val;rw[hL]at this;exact this
 have hiv:∀q:List Rv,q.map (UE fun e:Rv=>S3 e.1)=ZR (q.map Subtype.val):=fun q=>by unfold ZR;rw[b6S];rfl
 have hs:=d5m L (by omega);rw[hiv,hiv,hL,hlen]at hs;refine⟨(d4m L).map Subtype.val,?_,fun e=>NF.mem_iff,by rw[NF.length_eq],hs⟩
 have h1:(d4m L).Pairwise fun x y=>(!(Go.Proofs.ltOf (fun a b:Rv=>a.1.cmp b.1) y x))=true:=by
  refine c1V (fun a b c h1 h2=>?_) (fun a b=>?_) L
  ·rw[b9O]at*;exact d8l.ntrans _ _ _ h2 h1
  ·rw[b6L,b9O,b9O]
   cases h:Go.Proofs.ltOf (fun a b:Rv=>a.1.cmp b.1) b a with
   |false=>exact .inl rfl
   |true=>
    right;rw[qZ]at*;exact c2q h
 have h2:((d4m L).map Subtype.val).Nodup:=NF.nodup_iff.2 WA;unfold RE;rw[c8H];unfold d5p at h2;rw[c8H]at h2;refine(h1.and h2).imp ?_;rintro a b ⟨g1,g2⟩;rw[b9O,qZ]at g1
 cases h:a.1.lss b.1 with
 |true=>rfl
 |false=>exact absurd (c4q a.2.rt b.2.rt h g1) g2
theorem d7m:ZU prog true ON [.iv (.Z6 8 []), .fn UK [] []] [] (.Zp []) []:=
 c0S 8 fun p cap fv w=>Go.Proofs.Tryz.slices_SortFunc_none p cap fv w
theorem e9m{s:St}{t:Nat}{y:IV}(h:(s.get t).Xj=some y):Le s (s.set t (.iv y)):=by
 rintro E n a w ⟨ψ,hs⟩;refine⟨ψ,{hs with frame:=fun u=>?_}⟩;rw[St.Xd];split
 ·rename_i e;subst e;exact .iv _ _ (d8C (hs.frame t) h (fun _ _ h=>h))
 ·exact hs.frame u
def YR(D:List Nat)(t:Nat)(x:IV)(s:St):Prop:=D.all (· <1000)=true/\((s.ZM D).get t).Xj=some x/\MB s.hp=true
theorem TK{P:Program}{f:FuncId}{args:List AV}{x:IV}{n t:Nat}{c:Z9}(hf:Zz P f=some (n,c,[.tmp t]))
 (YQ:args.length<=n) (hn:n<=999) (h:X5 P c ⟨SG 0 args,[]⟩ ⟨fun s=>∃D,YR D t x s,fun _ _=>False,fun s=>∃D,YR D t x s,fun _ _=>False⟩):ZU P false f args [] (.iv x) []:=
 Ip hf YQ rfl rfl (MA (SZ hn _ _ _ h) fun s h=>by
  obtain⟨D,h1,h2,h3⟩:=h
  have hk:(((s.ZM D).set t (.iv x)).hp.map (·.1)).all (· <1000)=true:=by
   show((s.ZM D).hp.map (·.1)).all (· <1000)=true
   rw[a0E];intro k hk;exact a0E.1 (se h3) k (e5p D hk)
  refine⟨((s.ZM D).set t (.iv x)).ZM (((s.ZM D).set t (.iv x)).hp.map (·.1)),[.iv x],((QZ D h1 s).trans (e9m h2)).trans (QZ _ hk _),?_,rfl,fun id=>?_,fun h=>by cases h⟩
  ·simp[V4,qh _ (show((s.ZM D).set t (.iv x)).get t= .iv x by rw[St.Xd,if_pos rfl])]
  ·refine sf _ ?_
   cases hl:Vm.look ((s.ZM D).set t (.iv x)).hp id with
   |none=>exact .inr rfl
   |some o=>exact .inl (List.contains_iff_mem.1 (Ep hl)))
theorem e1n{s:St}{t sz id:Nat}(h:s.get t= .nil sz)(Y6:Vm.look s.hp id=none)(VF:id<1000):Le s ((s.add id (.list sz [])).set t (.sl id sz 0 0)):=by
 rintro E n a w ⟨ψ,hs⟩;have h1:=hs.new (o:= .list sz []) (p:=none) (w':=w) VF Y6 (Ext.refl w) (fun b k e=>by cases e) ⟨fun _ h=>(by cases h), .inl ⟨by simp[XF],rfl⟩⟩
 have Wn:XF ψ id none id=none:=by simp[XF]
 refine⟨_,{h1 with frame:=fun u=>?_}⟩;have hf:=h1.frame u;rw[St.Xd];split
 ·rename_i e;subst e;rw[show(s.add id (.list sz [])).get t= .nil sz from h]at hf;generalize a.tmps.getD t undef=v at hf;cases hf;exact .U4 id sz (.list sz []) 0 (by rw[show((s.add id (.list sz [])).set t (.sl id sz 0 0)).hp=(s.add id (.list sz [])).hp from rfl,WX,if_pos rfl]) rfl Wn
 ·exact hf
def qK(t:Nat)(R:AV->Hp->Prop)(s:St):Prop:=∃s1,Le s s1/\GC t R s1
theorem e2n{P:Program}{f:FuncId}{args:List AV}{n t:Nat}{c:Z9}(R:AV->Hp->Prop)(hf:Zz P f=some (n,c,[.tmp t]))(YQ:args.length<=n)(hn:n<=999)
 (hR:∀x H',R x H'->(∀id o,Vm.look H' id=some o->o.Zl=false/\o.flat)/\x.flat=true)
 (h:X5 P c ⟨SG 0 args,[]⟩ ⟨qK t R,fun _ _=>False,qK t R,fun _ _=>False⟩):Ng P true f args [] R:=
 d2Z hf YQ rfl rfl (fun x H' h id o ho=>((hR x H' h).1 id o ho).1) (MA (SZ hn _ _ _ h) fun s h=>by
  obtain⟨s1,h0,D,x,H',h1,h2⟩:=h
  exact⟨⟨[(t,x)],H'⟩,[x],H',h0.trans h2.le,by simp[V4,St.get,Vm.look],h1,fun _=>rfl,fun _=>⟨(hR x H' h1).2,fun id o ho=>((hR x H' h1).1 id o ho).2⟩⟩)
def Jo(e:Eg):List AV:=[e.av]
def Rr(ks:List Eg):List (List AV):=ks.map Jo
def qO(S:Eg->Prop)(pre:List (List AV))(x:List AV):Prop:=∃ks k,pre=Rr ks/\x=Jo k/\(ks++[k]).Nodup/\∀j∈ks++[k],S j
def f6s(S:Eg->Prop)(xs:List (List AV)):Prop:=∃ks:List Eg,xs=Rr ks/\ks.Nodup/\∀j,j∈ks↔S j
theorem f7s(S:Eg->Prop)(e:Eg):gE S (S3 e)≠none↔S e:=by
 unfold S3;simp only[gE];split
 ·rename_i h;exact⟨fun _=>h,fun _ h=>by cases h⟩
 ·rename_i h;exact⟨fun g=>absurd rfl g,fun g=>absurd g h⟩
theorem d0R{S:Eg->Prop}{q:List Value}(h:gE S q≠none):∃e,S e/\q=S3 e:=by
 unfold gE at h;split at h
 ·rename_i f t k tb x n s c;split at h
  ·rename_i hs;exact⟨_,hs,rfl⟩
  ·exact absurd rfl h
 ·exact absurd rfl h
theorem d1R{a b:Eg}(h:S3 a=S3 b):a=b:=by
 unfold S3 at h;simp only[a4S,Value.int.injEq,Value.bool.injEq,Value.string.injEq,true_and,and_true]at h;obtain⟨h1,h2,h3,h4,h5,h6,h7,h8⟩:=h;exact Eg.eq_iff.2 ⟨h1,h2,h3,h4,Vl.eq_iff.2 ⟨h5,h6,h7⟩,h8⟩
theorem d2R{S:Eg->Prop}{q:List Value}{c:List IV}(h:gE S q=some c):c=[ci 1]:=by
 unfold gE at h;split at h
 ·split at h
  ·cases h;rfl
  ·cases h
 ·cases h
theorem d3R(
 S:Eg->Prop):rJ prog QG [.pt [.mp I7 (gE S)]] (qO S) (f6s S):=by
 intro l Zs Zx cont hy;refine c0d e5P (by simp) (by decide) ?_;simp-dsimp[a8k];intro L0 hn0 hL0 _
 refine Fi (fun n s=>∃(left:List (List Value)) (last:Option (List Value)) (ks:List Eg),n=left.length/\s=⟨[(5, .ptr 5 0),(0, .iv (.v (.func (.yield l) #[] #[])))],[(5, .iter I7 (gE S) left last),(1000, .gh (Zs (Rr ks)) [] [])]⟩∧
  ks.Nodup/\(∀q∈left,∃k,S k/\q=S3 k/\k∉ks)/\(∀k∈ks,S k)/\∀k,S k->k∈ks\/S3 k∈left) ⟨_,_,LeTo.le (D:=[]) (s':=⟨[(5, .ptr 5 0),(0, .iv (.v (.func (.yield l) #[] #[])))],[(5, .iter I7 (gE S) L0 none),(1000, .gh (Zs (Rr [])) [] [])]⟩) ?_,L0,none,[],rfl,rfl,by simp,?_,by simp,?_⟩ ?_
 ·simp-dsimp[Rr]
 ·intro q hq;obtain⟨k,h1,h2⟩:=d0R ((hL0 q).1 hq);exact⟨k,h1,h2,by simp⟩
 ·intro k hkL;exact .inr ((hL0 _).2 ((f7s S k).2 hkL))
 ·rintro n s ⟨left,last,ks,rfl,rfl,h1,h2,h3,h4⟩;simp-dsimp[FR];refine⟨?_,?_⟩
  ·rintro rfl;refine⟨Zs (Rr ks),by simp,fun A B w hz=> .inl ⟨_,⟨ks,rfl,h1,fun j=>⟨h3 j,fun hj=>(h4 j hj).resolve_right (by simp)⟩⟩,hz⟩,by simp⟩
  ·intro q c hq hg;obtain⟨k,q1,rfl,q3⟩:=h2 q hq;obtain rfl:=d2R hg;simp-dsimp[hg,S3]
   have hp:qO S (Rr ks) (Jo k):=⟨ks,k,rfl,rfl,by
    refine b5m.2 ⟨h1,by simp,?_⟩;rintro a ha b hb rfl;rw[a2z.1 hb]at ha
    exact q3 ha,fun j hj=>by
    rcases a1E.1 hj with h|h
    ·exact h3 j h
    ·rw[a2z.1 h];exact q1⟩
   intro c' _;have Rj:Value.int .i64 k.ZX::Value.int .i64 k.to::Value.int .i64 k.kind::Value.int .i64 k.table::Value.bool k.key.text::Value.int .i64 k.key.n::Value.string k.key.s::Value.bool k.ZN::[]=S3 k:=rfl;refine c1d (g:=1000) (hy _ _ hp) (by simp) (by simp[Jo,Eg.av,Eg.cells]) (by simp[Jo,Eg.av,Eg.cells,AV.plain,AV.D1]) ?_
   cases VB:cont (Rr ks) (Jo k)with
   |true=>
    have hkr:Rr ks++[Jo k]=Rr (ks++[k]):=by simp[Rr]
    simp-dsimp[VB,hkr,Rj];refine⟨_,c7P hq,_,LeTo.le (D:=[3]) (s':=⟨[(5, .ptr 5 0),(0, .iv (.v (.func (.yield l) #[] #[])))],[(5, .iter I7 (gE S) (O6 (S3 k) left) (some (S3 k))),(1000, .gh (Zs (Rr (ks++[k]))) [] [])]⟩) ?_,_,rfl,_,_,rfl,?_⟩
    ·simp-dsimp
    ·refine⟨b5m.2 ⟨h1,by simp,fun a ha b hb=>by rintro rfl;rw[a2z.1 hb]at ha;exact q3 ha⟩,fun q V0=>?_,fun j hj=>?_,fun j hj=>?_⟩
     ·obtain⟨hq1,QJ⟩:=c6P.1 V0;obtain⟨k',p1,rfl,p3⟩:=h2 q hq1;refine⟨k',p1,rfl,fun hm=>?_⟩
      rcases a1E.1 hm with h|h
      ·exact p3 h
      ·rw[a2z.1 h]at QJ;exact QJ rfl
     ·rcases a1E.1 hj with h|h
      ·exact h3 j h
      ·rw[a2z.1 h];exact q1
     ·rcases h4 j hj with h|h
      ·exact .inl (a6O _ h)
      ·by_cases e:j=k
       ·exact .inl (List.mem_append_right _ (by simp[e]))
       ·exact .inr (c6P.2 ⟨h,fun g=>e (d1R g)⟩)
   |false=>
    simp-dsimp[VB];exact⟨Zx (Rr ks) (Jo k),by simp,fun A B w hz=> .inr ⟨_,_,hz⟩,by simp⟩
theorem d4R(g:List Value->Option (List IV)):Ng prog false Mf [.iv (.mp I7 g)] [] (fun r K=>r= .fn QG [] [.ptr 1 0]/\K=[(1, .box [.iv (.mp I7 g)])]):=by
 refine c3d _ e3J (by simp) (by decide) (fun x H' h=>by
  obtain⟨rfl,rfl⟩:=h;refine⟨fun id o ho=>?_,by simp⟩;simp only[Vm.look]at ho;split at ho
  ·cases ho;rfl
  ·cases ho) ?_
 simp-dsimp[J6];exact⟨[],_,_,⟨rfl,rfl⟩,by simp-dsimp⟩
theorem d5R(g:List Value->Option (List IV)):ZU prog false Mf [.iv (.mp I7 g)] [] (.fn QG [] [.ptr 901 0]) [(901, .box [.iv (.mp I7 g)])]:=
 ((
  d4R g).one (fun _ _ e=>e) (fun id o ho=>by
  simp only[Vm.look]at ho;split at ho
  ·cases ho;rfl
  ·cases ho)).Zk (Ren.WD [(1,901)]) rfl
theorem d6R:XI prog QG=true:=by kernel_rfl
def e0S(j:Nat)(S:List Eg->Prop)(r:AV)(K:Hp):Prop:=∃ks:List Eg,S ks/\((ks=[]/\r= .nil 8/\K=[])\/(ks≠[]/\r= .sl j 8 0 ks.length/\K=[(j, .list 8 (ZR ks))]))
def f8s:List AV->Eg
 | [.agg [.iv (.v (.int _ a)), .iv (.v (.int _ b)), .iv (.v (.int _ c)), .iv (.v (.int _ d)), .iv (.v (.bool t)), .iv (.v (.int _ n)), .iv (.v (.string s)), .iv (.v (.bool u))]]=>⟨a,b,c,d,⟨t,n,s⟩,u⟩
 | _=>⟨0,0,0,0,Vl.zero,false⟩
def oZ(p:List (List AV)):List Eg:=p.map f8s
theorem oY(ks:List Eg):oZ (Rr ks)=ks:=by
 unfold oZ Rr;rw[b6S];exact(List.map_congr_left fun e _=>rfl).trans (List.map_id _)
def NS:List Eg->Hp
 | []=>[(2, .box [.nil 8])]
 |k::ks=>[(2, .box [.sl 11 8 0 (k::ks).length]),(11, .list 8 (ZR (k::ks)))]
theorem d9R{ks:List Eg}(h:ks≠[]):NS ks=[(2, .box [.sl 11 8 0 ks.length]),(11, .list 8 (ZR ks))]:=by
 cases ks with
 |nil=>exact absurd rfl h
 |cons k ks=>rfl
theorem d0S(l:List Eg):∀x∈ZR l,∀y∈x,y.flat=true:=by
 intro x hx y hy;obtain⟨e,_,rfl⟩:=a3E.1 hx;simp only[Eg.cells,a2E,b8w,or_false]at hy
 rcases hy with rfl|rfl|rfl|rfl|rfl|rfl|rfl|rfl<;>rfl
theorem d1S{j:Nat}{S:List Eg->Prop}{r:AV}{K:Hp}(h:e0S j S r K):(∀id o,Vm.look K id=some o->o.Zl=false/\o.flat)/\r.flat=true:=by
 obtain⟨ks,_,⟨_,rfl,rfl⟩|⟨_,rfl,rfl⟩⟩:=h
 ·exact⟨fun id o h=>(by cases h),rfl⟩
 ·refine⟨fun id o ho=>?_,rfl⟩;simp only[Vm.look]at ho;split at ho
  ·cases ho;exact⟨rfl,d0S ks⟩
  ·cases ho
theorem d2S{f:FuncId}{caps:List IV}{Ul:List (List AV)->List AV->Prop}{S:List (List AV)->Prop}(hi:rJ prog f caps Ul S)(ZY:XI prog f=true)
 (hp:∀pre x,Ul pre x->∃ks k,pre=Rr ks/\x=Jo k/\ks.length<2^32):
 Ng prog true HW [.nil 8, .fn f [] (caps.map Z3.val)] [] (e0S 11 fun ks=>S (Rr ks)):=by
 refine c4d _ e0P (by simp) (by decide) (fun x H' h=>d1S h) ?_;simp-dsimp[a7k];refine c2d [4] [5,10] 990 [(2, .ptr 2 0),(6, .fn f [] (caps.map Z3.val))] (fun p=>∃ks,p=Rr ks) (fun p=>NS (oZ p)) hi ?_ (by simp) ZY (by decide) (by simp[oZ,NS]) (by simp) ?_ ⟨[],rfl⟩ ?_ ?_
 ·simp-dsimp[oZ,NS]
 ·intro pre x hx;obtain⟨ks,k,_,rfl,_⟩:=hp pre x hx;rfl
 ·rintro vs _ x ⟨ks,rfl⟩ hx;obtain⟨ks',k,WZ,rfl,hlen⟩:=hp _ x hx
  have WZ:ks=ks':=by have:=congrArg oZ WZ;rwa [oY,oY]at this
  subst WZ
  have hkr:Rr ks++[Jo k]=Rr (ks++[k]):=by simp[Rr]
  refine⟨⟨ks++[k],hkr⟩,?_⟩;rw[hkr,oY,oY,d9R (by simp:ks++[k]≠[])]
  cases ks with
  |nil=>
   simp-dsimp[MP,MO,UU,St.set_mk,Jo,NS,X0,Eg.av,Eg.cells];rfl
  |cons k0 ks=>
   simp-dsimp[MP,MO,UU,St.set_mk,Jo,NS,X0,Eg.av,Eg.cells];simp only[a3O]at hlen;refine⟨by omega,by omega,by simp[ZR,Eg.cells]⟩
 ·rintro vs _ ⟨ks,rfl⟩ hS;rw[oY]
  cases ks with
  |nil=>
   simp-dsimp[NS,X0];exact⟨[2,990],_,_,⟨_,hS, .inl ⟨rfl,rfl,rfl⟩⟩,by simp-dsimp⟩
  |cons k0 ks=>
   simp-dsimp[NS,X0];exact⟨[2,990],_,_,⟨_,hS, .inr ⟨by simp,rfl,rfl⟩⟩,by simp-dsimp⟩
theorem d3S{f:FuncId}{caps:List IV}{Ul:List (List AV)->List AV->Prop}{S:List (List AV)->Prop}(hi:rJ prog f caps Ul S)(ZY:XI prog f=true)
 (hp:∀pre x,Ul pre x->∃ks k,pre=Rr ks/\x=Jo k/\ks.length<2^32):
 Ng prog true Ia [.fn f [] (caps.map Z3.val)] [] (e0S 11 fun ks=>S (Rr ks)):=by
 refine c4d _ e0J (by simp) (by decide) (fun x H' h=>d1S h) ?_;simp-dsimp[a7j];refine c5d (d2S hi ZY hp) ?_ (by simp) ?_ ?_
 ·simp
 ·intro x H' h id o ho;simp-dsimp;obtain⟨ks,hS,⟨rfl,rfl,rfl⟩|⟨ZS,rfl,rfl⟩⟩:=h
  ·cases ho
  ·simp only[Vm.look]at ho;split at ho
   ·omega
   ·cases ho
 ·rintro x H' ⟨ks,hS,⟨rfl,rfl,rfl⟩|⟨ZS,rfl,rfl⟩⟩
  ·simp-dsimp;exact⟨[2],_,_,⟨_,hS, .inl ⟨rfl,rfl,rfl⟩⟩,by simp-dsimp⟩
  ·simp-dsimp;exact⟨[2],_,_,⟨_,hS, .inr ⟨ZS,rfl,rfl⟩⟩,by simp-dsimp⟩
theorem d0x:Jq.Ok:= .mk _ (by decide) (by decide) (by decide) fun q hq=>by cases hq
theorem d1x{h:Hs}(hw:YP h):I8 h.events:=fun _ he hk=>(c0p hw he hk).1
theorem d2x(t l:Int):(exB t l).cells=[ci t,ci 1,ci l,ci 0,cb false,ci 0, .v (.string ⟨#[]⟩),ci 0,ci 0,ci 0, .Z6 3 [],ci 0,ci 0,cb false,ci 0, .v (.string ⟨#[]⟩),cb false,ci 0, .v (.string ⟨#[]⟩), .Z6 9 [], .Z6 5 [],cb false]:=by rw[Ev.Z8];rfl
theorem d3x(t:Int):(exC t).cells=[ci t,ci 5,ci 0,ci 0,cb false,ci 0, .v (.string ⟨#[]⟩),ci 0,ci 0,ci 0, .Z6 3 [],ci 0,ci 0,cb false,ci 0, .v (.string ⟨#[]⟩),cb false,ci 0, .v (.string ⟨#[]⟩), .Z6 9 [], .Z6 5 [],cb false]:=by rw[Ev.Z8];rfl
theorem d4x(t n:Int)(r:List Vl):(exW t n r).cells=[ci t,ci 3,ci 0,ci 0,cb false,ci 5, .v (.string ⟨#[]⟩),ci 0,ci 0,ci n, .Z6 3 (YM r),ci 0,ci 0,cb false,ci 0, .v (.string ⟨#[]⟩),cb false,ci 0, .v (.string ⟨#[]⟩), .Z6 9 [], .Z6 5 [],cb false]:=by rw[Ev.Z8];rfl
theorem e7m{h:Hs}(ZY:h.Ok)(XS:h.events.length<2^40):(YP h/\ZU prog false RZ [h.av] [] (.iv (X8 h.events h.order)) [])\/(¬YP h/\ZU prog false RZ [h.av] [] f3O []):=by
 by_cases hw:YP h
 ·exact .inl ⟨hw,c2R ZY XS hw (d1x hw) fun o ho=>c7L (c4Z hw ho) XS⟩
 ·exact .inr ⟨hw,c1R ZY XS hw⟩
theorem e8m{h:Hs}(hw:YP h){table:Int}{k:Vl}{v:Vs}:∀x,x∈(Wq h.events table k v).getD []->x.s.size<2^63:=by
 unfold Wq;split
 ·simp
 ·cases hl:Wc (Ev.Tl v.txn table k v.n) h.events with
  |none=>simp
  |some e=>exact(c0p hw (MF hl).1 (b4y (MF hl).2)).2
def N8(S:Eg->Prop)(es:List Eg)(m:Eg):Prop:=S m\/(m.ZX≠m.to/\m∈es)
theorem d5x{κ:Type}(S:Eg->Prop)(F:κ->List Eg)(ks:List κ):UQ S F ks=N8 S (ks.flatMap F):=by
 funext m;unfold UQ N8;simp[a2N]
theorem d6x(S:Eg->Prop)(f:Nat->List Eg)(i:Nat):XU S f (i+1)=N8 (XU S f i) (f i):=by
 funext m
 refine propext ⟨fun g=>?_,fun g=>?_⟩
 ·rcases g with g|⟨h1,j,hj,hm⟩
  ·exact .inl (.inl g)
  ·rcases a6U j i with g|g
   ·exact .inl (.inr ⟨h1,j,g,hm⟩)
   ·have:j=i:=by omega
    subst this;exact .inr ⟨h1,hm⟩
 ·rcases g with(g|⟨h1,j,hj,hm⟩)|⟨h1,hm⟩
  ·exact .inl g
  ·exact .inr ⟨h1,j,by omega,hm⟩
  ·exact .inr ⟨h1,i,by omega,hm⟩
theorem d7x(S:Eg->Prop):N8 S []=S:=by funext m;unfold N8;simp
def Hs.NM(h:Hs):Prop:=h.events.length<=100/\h.order.length<=100
def ET(h:Hs)(j:Nat):List Eg:=((h.order.filter (UG j)).map Ins.key).flatMap (wwK h j)
def I5(h:Hs)(i:Nat):List Eg:=(h.events[i]?).elim [] (Qh h)
section
variable{h:Hs}
theorem d8x(hw:YP h){e:Ev}(he:e∈h.events)(hk:e.kind=3):SE h e.table e.key:=by
 obtain⟨i,hi⟩:=a9B he;exact(c6n hw hi hk).1
theorem d9x(hw:YP h){o:Ins}(ho:o∈h.order):SE h o.table o.key:=by
 obtain⟨i,hi⟩:=a9B ho;obtain⟨t,ht⟩:=Zw (c5n hw hi).2.2;obtain⟨e,he,hk⟩:=c1Z (c3Z hw ho (a8y ht)).2;obtain⟨k3,_,g1,g2⟩:=qw hk;rw[<-g1, <-g2];exact d8x hw he k3
theorem d0y(hw:YP h){o:Ins}(ho:o∈h.order):Ey h o.table o.key=o.ZW:=by
 unfold Ey;rw[b4z (c7Z hw) ho (qx.2 ⟨rfl,rfl⟩)]
theorem d1y(hw:YP h){o:Ins}(ho:o∈h.order){m:Eg}:m∈wwK h o.table o.key↔m∈R4 o:=by
 unfold wwK;rw[mem_range,a8N];have MI:=a4B hw (table:=o.table) (k:=o.key);rw[d0y hw ho]at MI;rw[MI];constructor
 ·rintro⟨j,hj,hm⟩;unfold Js at hm;rw[MI]at hm;split at hm
  ·rename_i h2;obtain⟨i,rfl⟩:∃i,j=i+2:=⟨j-2,by omega⟩;rw[a3O,a6S]at hj;obtain⟨a,ha⟩:∃a,o.ZW[i]? =some a:=Zw (by omega);obtain⟨b,hb⟩:∃b,o.ZW[i+1]? =some b:=Zw (by omega);rw[show i+2-1=i+1 from rfl,a2I,a2I,a0C,a0C,ha,hb]at hm
   exact⟨i,a,b,ha,hb,by simpa using hm⟩
  ·cases hm
 ·rintro⟨i,a,b,ha,hb,rfl⟩;refine⟨i+2,?_,?_⟩
  ·rw[a3O,a6S];have:=(a7y.1 hb).1;omega
  ·unfold Js;rw[MI,if_pos (by omega),show i+2-1=i+1 from rfl,a2I,a2I,a0C,a0C,ha,hb];simp
theorem d2y(hw:YP h){m:Eg}:(∃j,j<h.tables.length/\m∈ET h j)↔m∈h.order.flatMap R4:=by
 rw[a2N];constructor
 ·rintro⟨j,_,hm⟩;unfold ET at hm;rw[a2N]at hm;obtain⟨k,hk,hm⟩:=hm;obtain⟨o,ho,rfl⟩:=a3E.1 hk;rw[a0F]at ho
  have ht:o.table=j:=by simpa[UG]using ho.2
  exact⟨o,ho.1,(d1y hw ho.1).1 (by rw[ht];exact hm)⟩
 ·rintro⟨o,ho,hm⟩;obtain⟨h0,t,ht,_⟩:=d9x hw ho;refine⟨o.table.toNat,(a7y.1 ht).1,?_⟩;unfold ET;rw[a2N]
  have hn:((o.table.toNat:Nat):Int)=o.table:=by omega
  exact⟨o.key,a3E.2 ⟨o,a0F.2 ⟨ho,by simp[UG,hn]⟩,rfl⟩,by rw[hn];exact(d1y hw ho).2 hm⟩
theorem d3y{m:Eg}:(∃i,i<h.events.length/\m∈I5 h i)↔m∈h.events.flatMap (Qh h):=by
 rw[a2N];constructor
 ·rintro⟨i,hi,hm⟩;obtain⟨e,he⟩:=Zw hi;unfold I5 at hm;rw[he]at hm;exact⟨e,a8y he,hm⟩
 ·rintro⟨e,he,hm⟩;obtain⟨i,hi⟩:=a9B he;refine⟨i,(a7y.1 hi).1,?_⟩;unfold I5;rw[hi];exact hm
theorem d4y(hw:YP h)(m:Eg):XU (XU (fun _=>False) (ET h) h.tables.length) (I5 h) h.events.length m↔m∈YV h:=by
 rw[a6N hw];unfold XU Ji;rw[d2y hw,d3y,a1E];constructor
 ·rintro((h1|⟨h1,h2⟩)|⟨h1,h2⟩)
  ·exact h1.elim
  ·exact⟨.inl h2,h1⟩
  ·exact⟨.inr h2,h1⟩
 ·rintro⟨h1|h1,h2⟩
  ·exact .inl (.inr ⟨h2,h1⟩)
  ·exact .inr ⟨h2,h1⟩
structure f2X (h:Hs) (m:Eg):Prop where
 ZX:m.ZX∈XO h.events
 to:m.to∈XO h.events
 kind:1<=m.kind/\m.kind<=5
 key:SE h m.table m.key
 cur:m.ZN=true->m.kind=2\/m.kind=4
theorem d5y(hw:YP h){e:Ev}(he:e∈h.events)(hk:e.kind=2):SE h e.table e.key:=by
 obtain⟨i,hi⟩:=a9B he;exact((IE hw hi).1.2.1 hk).1
theorem d6y(hw:YP h){table:Int}{k:Vl}{i:Nat}{v:Vs}(hv:(Zr h.events h.order table k)[i]? =some v)(hi:0<i):v.txn∈XO h.events:=(a1O hw hv hi).1
theorem d7y(hw:YP h){table:Int}{k:Vl}{v:Vs}(hp:0<Yg h.events h.order table k v):v.txn∈XO h.events:=by
 unfold Yg at hp;split at hp
 ·omega
 ·rcases c0C (fun x:Vs=>decide (x.txn=v.txn)) (Zr h.events h.order table k)with⟨i,x,g1,g2,g3,_⟩|⟨_,g⟩
  ·rw[g3]at hp;rw[decide_eq_true_eq]at g2;rw[<-g2];exact d6y hw g1 (by omega)
  ·omega
theorem d8y(
 hw:YP h) {m:Eg} (hm:m∈Ji h):f2X h m:=by
 unfold Ji at hm;rw[a1E,a2N,a2N]at hm
 rcases hm with⟨o,ho,hm⟩|⟨e,he,hm⟩
 ·obtain⟨i,a,b,ha,hb,rfl⟩:=a8N.1 hm;exact⟨qy (c3Z hw ho (a8y ha)).1,qy (c3Z hw ho (a8y hb)).1,by simp,d9x hw ho,fun h=>by cases h⟩
 ·unfold Qh at hm;split at hm
  ·rename_i h5;have hc:=qy h5;split at hm
   ·rename_i k2;unfold JT at hm;rw[a1E]at hm
    rcases hm with hm|hm
    ·unfold Jj at hm;split at hm
     ·rename_i hp;rw[a2z]at hm;subst hm;exact⟨d7y hw hp,hc,by simp,d5y hw he k2,fun _=> .inl rfl⟩
     ·cases hm
    ·unfold Mz at hm;split at hm
     ·rename_i hp;rw[a2z]at hm;subst hm;obtain⟨v,hv⟩:∃v,(Zr h.events h.order e.table e.key)[(Yg h.events h.order e.table e.key e.ZX+1).toNat]? =some v:=Zw (by omega);refine⟨hc,?_,by simp,d5y hw he k2,fun _=> .inr rfl⟩;rw[hv];exact d6y hw hv (by omega)
     ·cases hm
   ·split at hm
    ·unfold Il at hm;rw[a2N]at hm;obtain⟨o,ho,hm⟩:=hm;unfold QK at hm;split at hm
     ·rename_i ht;unfold QL at hm;split at hm
      ·cases hm
      ·rw[mem_range]at hm;obtain⟨j,hj,hm⟩:=hm;unfold Qi at hm;split at hm
       ·rename_i MI
        have hj0:0<j:=by
         rcases Nat.eq_zero_or_pos j with g|g
         ·subst g;unfold Uz at MI;rw[if_pos (.inl (by decide))]at MI;cases MI
         ·exact g
        obtain⟨v,hv⟩:=Zw hj;have hcv:=d6y hw hv hj0
        have hk:SE h e.table o.key:=by rw[<-ht];exact d9x hw ho
        rw[a2z,hv]at hm;split at hm
        ·subst hm;exact⟨hcv,hc,by simp,hk,fun h=>by cases h⟩
        ·subst hm;exact⟨hc,hcv,by simp,hk,fun h=>by cases h⟩
       ·cases hm
     ·cases hm
    ·cases hm
  ·cases hm
theorem d9y(hw:YP h)(Xp:h.Rg){t:Int}(ht:t∈XO h.events):1<=t/\t<2^63:=by
 unfold XO at ht;obtain⟨e,he,rfl⟩:=a3E.1 ht;have hm:=(a0F.1 he).1;exact⟨c5Z hw hm,(Xp e hm).2⟩
theorem d0z(hw:YP h)(Xp:h.Rg){m:Eg}(hm:m∈Ji h):m.D:=by
 obtain⟨h1,h2,h3,h4,_⟩:=d8y hw hm;have g1:=d9y hw Xp h1;have g2:=d9y hw Xp h2;have g3:=a0O hw h4;exact⟨a9N h4,by omega,by omega,by omega,by omega⟩
theorem d1z(h:Hs):RE (YV h):=by
 by_cases hw:YP h
 ·unfold YV;rw[if_pos hw];exact c9q (fun x hx=>by cases hx) (fun x hx=>a9N (d8y hw hx).key) c9B
 ·rw[a7N hw];exact c9B
theorem IW{α β:Type}{f:α->List β}{B:Nat}:∀{l:List α},(∀x,x∈l->(f x).length<=B)->(l.flatMap f).length<=l.length*B
 | [],_=>by simp
 |x::r,h=>by
  rw[a6V,a7J,a3O,a8M,d5S];have h1:=h x a8C
  have h2:=IW (l:=r) fun y hy=>h y (a2C _ hy)
  omega
theorem d3z(
 hw:YP h) (hm:h.NM):(Ji h).length<=2^28:=by
 unfold Ji;rw[a7J]
 have h1:(h.order.flatMap R4).length<=h.order.length*100:=IW fun o ho=>by
  have:=c4Z hw ho;unfold R4;rw[a6S,List.length_zip];have:=hm.1;omega
 have h2:(h.events.flatMap (Qh h)).length<=h.events.length*20000:=IW fun e _=>by
  unfold Qh;split
  ·split
   ·unfold JT Jj Mz;rw[a7J]
    split<;>split<;>simp
   ·split
    ·unfold Il
     have:=IW (f:=QK h e) (B:=200) (l:=h.order) fun o _=>by
      unfold QK;split
      ·unfold QL;split
       ·simp
       ·have:=IW (f:=Qi h e o.key (Yg h.events h.order e.table o.key (Wb e.refs o.key))) (B:=1) (l:=a0I (Zr h.events h.order e.table o.key).length) fun j _=>by
         unfold Qi
         split<;>simp
        rw[c9J]at this;have:=rE hw e.table o.key;have:=hm.1;omega
      ·simp
     have:=a5E 200 hm.2;omega
    ·simp
  ·simp
 have:=a5E 100 hm.2;have:=a5E 20000 hm.1;omega
end
def EU(l:List Int):List Value->Option (List IV)
 | [.int .i64 t]=>if t∈l then some [ci 1]else none
 | _=>none
theorem b8z:EU []=fun _=>none:=by
 funext q;unfold EU;split
 ·rw[if_neg (by simp)]
 ·rfl
theorem b9z(l:List Int)(t:Int):ZG (EU l) [.int .i64 t] (some [ci 1])=EU (l++[t]):=by
 funext q
 simp only[ZG];split
 ·rename_i h;subst h;simp only[EU];rw[if_pos (by simp)]
 ·rename_i ZS;unfold EU;split
  ·rename_i u
   by_cases hu:u∈l
   ·rw[if_pos hu,if_pos (by simp[hu])]
   ·rw[if_neg hu,if_neg];intro g
    rcases a1E.1 g with g|g
    ·exact hu g
    ·rw[a2z.1 g]at ZS;exact ZS rfl
  ·rfl
theorem b0A(l:List Int)(t:Int):N9 [.iv (.v (.int .i64 0))] false false (EU l [Value.int .i64 t])=vi (if t∈l then 1 else 0):=by
 simp only[EU]
 split<;>rfl
theorem b1A{h:Hs}(ZY:h.Ok)(hm:h.NM)(hw:¬YP h):ZU prog true Xv [h.av] [] (.sl 2 8 0 0) [(2, .list 8 [])]:=by
 have hR:=c1R ZY (by have:=hm.1;omega) hw;refine e0q 2 8 [] G3 (by simp) (by decide) (by simp) ?_;simp-dsimp[a0j,Hs.av];refine Yk hR rfl (by simp[Hs.av]) (by simp[Hs.av]) (by simp) (by simp) ?_;simp-dsimp
noncomputable abbrev grL(S:Eg->Prop)(x:Value):Hp:=[(18, .map I7 (gE S)),(991, .gh ZT [x] [.mpr 18])]
theorem b2A{h:Hs}(P8:h.order.length<2^62)(i:Nat)(x:Value)(hc:∀k,(Zr h.events h.order i k).length<2^42)(S:Eg->Prop):
 ZU prog false Mj [.iv (Ye h x),vi i] (grL S x) (.Zp []) (grL (N8 S (ET h i)) x):=by
 have:=(d3r P8 i x hc S).Zk (Ren.WD [(1001,18),(1002,991)]) rfl;rw[d5x]at this;exact this
theorem b3A{h:Hs}(x:Value)(e:Ev)(Zf:I8 h.events)(hc:(Zr h.events h.order e.table e.key).length<2^42)(S:Eg->Prop):
 ZU prog false Mh [.iv (Ye h x),e.av] (grL S x) (.Zp []) (grL (N8 S (JT h e)) x):=by
 have hs:=d8a x e Zf hc S;rw[d5x,Ev.Z4,show[()].flatMap (fun _:Unit=>JT h e)=JT h e by simp]at hs;rw[Ev.Z4];exact hs.Zk (Ren.WD [(1001,18),(1002,991)]) rfl
theorem b4A(h:Hs)(e:Ev):Il h e=((h.order.filter (UG e.table)).map Ins.key).flatMap (QL h e):=by
 unfold Il
 induction h.order with
 |nil=>rfl
 |cons o r ih=>
  rw[a6V,ih,a0V];unfold QK UG
  by_cases ht:o.table=e.table
  ·rw[if_pos ht,if_pos (by simpa using ht),List.map_cons,a6V]
  ·rw[if_neg ht,if_neg (by simpa using ht),c9n]
theorem b5A{h:Hs}(P8:h.order.length<2^62)(x:Value)(e:Ev)(XR:e.Ok)(Zf:I8 h.events)(hc:∀k,(Zr h.events h.order e.table k).length<2^42)(S:Eg->Prop):
 ZU prog false Mg [.iv (Ye h x),e.av] (grL S x) (.Zp []) (grL (N8 S (Il h e)) x):=by
 have hs:=d7B P8 x e XR Zf hc S;rw[d5x, <-b4A,Ev.Z4]at hs;rw[Ev.Z4];exact hs.Zk (Ren.WD [(1001,18),(1002,991)]) rfl
noncomputable def I6(h:Hs)(x:Value)(S:Eg->Prop)(fr:List (Nat×AV))(hp:Hp):St:=
 ⟨fr++[(4, .iv (Ye h x)),(1, .ptr 1 0),(3, .iv (X8 h.events h.order))],hp++[(1, .box [.iv (.Z6 1 (Zd h.tables)), .iv (.Z6 22 (Zi h.events)), .iv (.Z6 5 (Zh h.order))]),(18, .map I7 (gE S)),(991, .gh ZT [x] [.mpr 18])]⟩
theorem b6A{h:Hs}(ZY:h.Ok)(Xp:h.Rg)(hm:h.NM)(hw:YP h):ZU prog true Xv [h.av] [] (.sl 11 8 0 (YV h).length) [(11, .list 8 (ZR (YV h)))]:=by
 refine(e2n (fun r K=>r= .sl 11 8 0 (YV h).length/\K=[(11, .list 8 (ZR (YV h)))]) G3 (by simp) (by decide) (fun x H' h=>?_) ?_).one (fun _ _ h=>h) (fun id o ho=>?_)
 ·obtain⟨rfl,rfl⟩:=h;refine⟨fun id o ho=>?_,rfl⟩;simp only[Vm.look]at ho;split at ho
  ·cases ho;exact⟨rfl,d0S _⟩
  ·cases ho
 rotate_left
 ·simp only[Vm.look]at ho;split at ho
  ·cases ho;rfl
  ·cases ho
 have P8:h.order.length<2^62:=by have:=hm.2;omega
 have hc:∀table k,(Zr h.events h.order table k).length<2^42:=fun table k=>by
  have:=rE hw table k;have:=hm.1;omega
 have Zf:=d1x hw
 have hR:=c2R ZY (by have:=hm.1;omega) hw Zf fun o ho=>c7L (c4Z hw ho) (by have:=hm.1;omega)
 simp-dsimp[a0j,Hs.av];refine Yk hR rfl (by simp[Hs.av]) (by simp[Hs.av]) (by simp) (by simp) ?_;have hbk:∀{P:Program} {s:St} {K:St->AV->Prop},True:=trivial;simp-dsimp[X8,Zc];refine a8J (fun k s=>∃(x:Value) (i:Nat),i<=h.tables.length/\k=h.tables.length-i/\s=I6 h x (XU (fun _=>False) (ET h) i) [(24,vi i),(23,vi h.tables.length)] []) ?_ ?_
 ·refine(a4Q (id:=20) (g:=991) (i:=4) (m:=18) (cs:=[.iv (.Z6 1 (Zd h.tables)), .iv (.Z6 22 (Zi h.events)), .iv (.Z6 5 (Zh h.order)), .iv (X8 h.events h.order), .mpr 18]) (by simp[X8]) rfl (by simp) (by decide)).to ?_;rintro s' ⟨x,rfl⟩
  refine(LeTo.le (D:=[20,2]) (s':=I6 h x (XU (fun _=>False) (ET h) 0) [(24,vi (0:Nat)),(23,vi h.tables.length)] []) ?_).x ⟨_,x,0,c4u _,rfl,rfl⟩;simp-dsimp[I6,rD,d1O,Ye,X8,St.add,St.set_mk]
 ·rintro k s' ⟨x,i,hi,rfl,rfl⟩;simp-dsimp[I6,Ls];refine⟨fun ZV=>?_,fun X3=>?_⟩
  ·have SS:=Zo (n:=(i:Int)+1) (by have:=ZY.tables;omega);refine TB (b2A P8 i x (fun k=>hc i k) (XU (fun _=>False) (ET h) i)) rfl (by simp) (by simp) (by simp) (by simp) (by simp) (by simp) (by simp) ?_;rw[<-d6x];simp-dsimp[SS]
   exact⟨h.tables.length-(i+1),by omega,I6 h x (XU (fun _=>False) (ET h) (i+1)) [(24,vi (i+1:Nat)),(23,vi h.tables.length)] [],LeTo.le (D:=[]) (by simp-dsimp[I6]),x,i+1,ZV,rfl,rfl⟩
  ·have Yq:i=h.tables.length:=by omega
   subst Yq;simp-dsimp
   have hlen:(Uk (XO h.events)).length<=100:=by
    rw[c3Q];exact Nat.le_trans (d1p _) hm.1
   refine Yk (b6y h.events h.order (by have:=hm.1;omega)) rfl (by simp) (by simp) (by simp) (by simp) ?_;simp-dsimp[XJ];generalize hS0:XU (fun _=>False) (ET h) h.tables.length=S0;generalize Rc:Uk (XO h.events)=cl at hlen
   refine YZ [] [] cl.length (fun q=>I6 h x S0 [(35,vi q),(34,vi cl.length),(33, .iv (.Z6 1 (Yj cl))),(6, .mpr 31)] [(31, .map (false,[.i .i64],false) (EU (cl.take q)))]) (fun _=>True) ?_ trivial ?_
   ·simp-dsimp[I6,b8z]
   ·intro q hq _;simp-dsimp[I6,Lr];refine⟨fun ZV=>?_,fun X3=>?_⟩
    ·obtain⟨t,ht⟩:=Zw ZV;have SS:=Zo (n:=(q:Int)+1) (by omega)
     have YL:cl.take (q+1)=cl.take q++[t]:=by rw[a1J,ht];rfl
     simp-dsimp[ht,SS,b9z,YL];exact ZV
    ·rw[a2B X3];refine YZ [31] [10] h.events.length (fun q=>I6 h x (XU S0 (I5 h) q) [(45,vi q),(44,vi h.events.length),(43, .iv (.Z6 22 (Zi h.events))),(6, .iv (.mp (false,[.i .i64],false) (EU cl)))] []) (fun _=>True) ?_ trivial ?_
     ·simp-dsimp[I6,rD]
     ·intro q hq _;simp-dsimp[I6,Lq];refine⟨fun ZV=>?_,fun X3=>?_⟩
      ·obtain⟨e,he⟩:=Zw ZV;have SS:=Zo (n:=(q:Int)+1) (by have:=hm.1;omega);have QW:=d6x S0 (I5 h) q
       have XS:I5 h q=Qh h e:=by unfold I5;rw[he];rfl
       have UW:e.txn∈cl↔W6 h.events e.txn=5:=by
        rw[<-Rc];exact⟨fun g=>a1B hw ((c7j _ _).mem_iff.1 g),fun g=>(c7j _ _).mem_iff.2 (qy g)⟩
       have XR:=ZY.ev e (a8y he);rw[XS]at QW;rw[QW];unfold Qh
       by_cases h5:e.txn∈cl
       ·rw[if_pos (UW.1 h5)]
        by_cases k2:e.kind=2
        ·rw[if_pos k2];simp-dsimp[he,b0A,Ev.Z8 e,h5,k2];refine TB (b3A x e Zf (hc e.table e.key) (XU S0 (I5 h) q)) rfl (by simp) (by simp[Ev.Z4,k2]) (by simp[Ev.Z4]) (by simp) (by simp) (by simp) (by simp) ?_;simp-dsimp[SS];exact ZV
        ·rw[if_neg k2]
         by_cases k4:e.kind=4
         ·rw[if_pos k4];simp-dsimp[he,b0A,Ev.Z8 e,h5,k4];refine TB (b5A P8 x e XR Zf (hc e.table) (XU S0 (I5 h) q)) rfl (by simp) (by simp[Ev.Z4,k4]) (by simp[Ev.Z4]) (by simp) (by simp) (by simp) (by simp) ?_;simp-dsimp[SS];exact ZV
         ·rw[if_neg k4,d7x];simp-dsimp[he,b0A,Ev.Z8 e,h5,k2,k4,SS];exact ZV
       ·rw[if_neg fun g=>h5 (UW.2 g),d7x];simp-dsimp[he,b0A,Ev.Z8 e,h5,SS];exact ZV
      ·have hqn:q=h.events.length:=by omega
       subst hqn
       have T3:∀m,XU S0 (I5 h) h.events.length m↔m∈YV h:=fun m=>by rw[<-hS0];exact d4y hw m
       generalize XU S0 (I5 h) h.events.length=SF at T3⊢
       have hSL:∀m,SF m->m∈Ji h:=fun m g=>((a6N hw).1 ((T3 m).1 g)).1
       have hEl:=d3z hw hm
       have WA:∀{ks:List Eg},ks.Nodup->(∀j∈ks,SF j)->ks.length<=(Ji h).length:=fun g1 g2=>c9Y g1 fun j hj=>hSL j (g2 j hj)
       simp-dsimp[Ye];refine o9 (a5Q (t:=73) (g:=991) (i:=0) (x:=x) (y:= .mpr 18) (Z:=ZT) (vs:=[x]) (cs:=[.mpr 18]) (by simp) (by simp) rfl rfl) ?_;refine Yk (d5R (gE SF)) rfl (by simp[St.set_mk]) (by simp) (by simp) (by simp[St.set_mk]) ?_;simp-dsimp[St.set_mk];refine c5d (d3S (caps:=[.pt [.mp I7 (gE SF)]]) (d3R SF) d6R (fun pre x hp=>?_)) ?_ (by simp) ?_ ?_
       ·obtain⟨ks,k,h1,h2,h3,h4⟩:=hp;refine⟨ks,k,h1,h2,?_⟩;have:=WA h3 h4;rw[a7J]at this;omega
       ·simp
       ·rintro r K ⟨ks,hS,⟨rfl,rfl,rfl⟩|⟨ZS,rfl,rfl⟩⟩ id o ho
        ·cases ho
        ·simp only[Vm.look]at ho;split at ho
         ·rename_i e;subst e;refine⟨?_,by decide⟩;simp-dsimp
         ·cases ho
       ·rintro r K ⟨ks,⟨ks',Xm,UD,NI⟩,Ya⟩
        have WZ:ks=ks':=by have:=congrArg oZ Xm;rwa [oY,oY]at this
        subst WZ
        obtain⟨r0,Rj,Lp,hr3,hr4⟩:=d6m (l:=ks) (fun e he=>d0z hw Xp (hSL e ((NI e).1 he))) UD (by
         have:=WA UD fun j hj=>(NI j).1 hj
         omega)
        obtain rfl:r0=YV h:=c5q Rj (d1z h) fun e=>by rw[Lp,NI,T3]
        rcases Ya with⟨rfl,rfl,rfl⟩|⟨ZS,rfl,rfl⟩
        ·have hE:YV h=[]:=a8R hr3;rw[hE];simp-dsimp;refine Zu d7m (by simp) (by simp) ?_;simp-dsimp;refine⟨_,e1n (t:=2) (sz:=8) (id:=11) (by simp) (by simp) (by decide),[1,901,991],_,_,⟨rfl,rfl⟩,?_⟩;simp-dsimp[St.add,St.set_mk,ZR]
        ·simp-dsimp;have hr5:ZU prog false ON [.sl 11 8 0 ks.length, .fn UK [] []] [(11, .list 8 (ZR ks))] (.Zp []) [(11, .list 8 (ZR (YV h)))]:=hr4.Zk (Ren.WD [(1000,11)]) rfl;refine TB hr5 rfl (by simp) (by simp) (by simp) (by simp) (by simp) (by simp[Ob.le,Ob.dim,hr3]) (by simp) ?_;simp-dsimp;refine⟨_,Le.refl _,[1,901,991],_,_,⟨rfl,rfl⟩,?_⟩
         simp-dsimp[hr3]
theorem b7A{h:Hs}(ZY:h.Ok)(Xp:h.Rg)(hm:h.NM)(d:Nat):ZU prog true Xv [h.av] [] (.sl d 8 0 (YV h).length) [(d, .list 8 (ZR (YV h)))]:=by
 by_cases hw:YP h
 ·exact(b6A ZY Xp hm hw).fresh d (by simp[Hs.av,AV.W7,AV.VM,AV.Vv]) (fun ρ=>rfl)
 ·have:=(b1A ZY hm hw).fresh d (by simp[Hs.av,AV.W7,AV.VM,AV.Vv]) (fun ρ=>rfl);rw[a7N hw];exact this
theorem b7P{α:Type}{p:α->Bool}:∀{l:List α} {i:Nat} {e:α},(ZH i fun j=>∀x,l[j]? =some x->p x=false)->l[i]? =some e->p e=true->l.find? p=some e
 | [],_,_,_,h,_=>by cases h
 |x::r,0,e,_,h,hp=>by
  simp only[a9E,a5y]at h;subst h;exact List.find?_cons_of_pos hp
 |x::r,i+1,e,hq,h,hp=>by
  have hx:=hq 0 (by omega) x rfl;rw[List.find?_cons_of_neg (by simp[hx])];exact b7P (i:=i) (fun j hj y hy=>hq (j+1) (by omega) y hy) h hp
theorem b8P{α:Type}{p:α->Bool}{l:List α}{n:Nat}(hn:l.length<=n)(hq:ZH n fun j=>∀x,l[j]? =some x->p x=false):l.find? p=none:=by
 rw[b4w];intro x hx;obtain⟨j,hj⟩:=a9B hx;simp[hq j (Nat.lt_of_lt_of_le (a7y.1 hj).1 hn) x hj]
theorem b9P{h:Hs}(ZY:h.Ok)(txn:Int):ZU prog true Ib [h.av,vi txn] [] (vi (((h.events.find? (Ev.Rk txn)).map Ev.level).getD 0)) []:=by
 refine YD oQ (by simp) (by decide) rfl ?_;simp-dsimp[a6a,Hs.av]
 refine YZ [] [] h.events.length (fun i=>⟨[(5,vi i),(1,vi txn),(2, .ptr 2 0)],[(2, .box [.iv (.Z6 1 (Zd h.tables)), .iv (.Z6 22 (Zi h.events)), .iv (.Z6 5 (Zh h.order))])]⟩)
  (fun i=>ZH i fun j=>∀e,h.events[j]? =some e->Ev.Rk txn e=false) ?_ ?_ ?_
 ·simp-dsimp
 ·simp
 ·intro i hi hq;have XS:=ZY.events;simp-dsimp[GO];refine⟨fun h2=>?_,fun h2=>?_⟩
  ·obtain⟨e,he⟩:=Zw h2;have hw:=Zo (n:=(i:Int)+1) (by omega)
   have hS:(e.kind=1/\e.txn=txn)->h.events.find? (Ev.Rk txn)=some e:=fun hh=>b7P hq he (by simp[Ev.Rk,hh])
   have hN:¬(e.kind=1/\e.txn=txn)->ZH (i+1) fun j=>∀e,h.events[j]? =some e->Ev.Rk txn e=false:=fun hn=>hq.succ fun x hx=>by
    rw[he]at hx;cases hx
    cases hb:Ev.Rk txn e with
    |false=>rfl
    |true=>exact(hn (by simpa[Ev.Rk]using hb)).elim
   by_cases k1:e.kind=1
   ·by_cases k2:e.txn=txn
    ·have:=hS ⟨k1,k2⟩;simp-dsimp[he,k1,k2,this]
    ·have:=hN fun g=>k2 g.2
     simp-dsimp[he,k1,k2,hw];exact⟨h2,this⟩
   ·have:=hN fun g=>k1 g.1
    simp-dsimp[he,k1,hw];exact⟨h2,this⟩
  ·rw[b8P h2 hq];rfl
def Nj(es:List Ev)(table:Int)(k:Vl)(v:Vs):Option (List Vl):=if v=⟨0,0⟩then some []else(es.find? (Ev.Tl v.txn table k v.n)).map Ev.row
theorem b0Q{h:Hs}(hw:YP h)(table:Int)(k:Vl)(v:Vs):Nj h.events table k v=Wq h.events table k v:=by
 unfold Nj Wq;rw[c7o hw]
theorem b1Q{h:Hs}(ZY:h.Ok)(table:Int)(k:Vl)(v:Vs):ZU prog false LQ [h.av,vi table,k.av,v.av] [] (.Zp [.iv (.Z6 3 (YM ((Nj h.events table k v).getD []))),vb (Nj h.events table k v).isSome]) []:=by
 refine e9q (by decide) oP (by simp[Hs.av]) (by decide) ?_
 by_cases h0:v=⟨0,0⟩
 ·subst h0;simp-dsimp[a4f,Hs.av,Nj];exact⟨[4,6,7,8,10],by simp[JG,AV.Xj,YM]⟩
 ·have h1:v.txn=0->¬v.n=0:=fun h h'=>h0 (Vs.eq_iff.2 ⟨h,h'⟩)
  have h2:Nj h.events table k v=(h.events.find? (Ev.Tl v.txn table k v.n)).map Ev.row:=by unfold Nj;rw[if_neg h0]
  rw[h2];simp-dsimp[a4f,Hs.av];refine⟨fun a b=>absurd b (h1 a),fun _=>?_⟩
  refine YZ [8,10] [12] h.events.length (fun i=>⟨[(11,vi i),(4, .ptr 4 0),(6, .ptr 6 0),(7, .ptr 7 0),(1,vi table)],[(7, .box (v.cells.map .iv)),(6, .box (k.cells.map .iv)),(4, .box (h.cells.map .iv))]⟩)
   (fun i=>ZH i fun j=>∀e,h.events[j]? =some e->Ev.Tl v.txn table k v.n e=false) ?_ ?_ ?_
  ·simp-dsimp[Hs.cells]
  ·simp
  ·intro i hi hq;have XS:=ZY.events
   by_cases Zb:i<h.events.length
   ·obtain⟨e,he⟩:=Zw Zb;have hw:=Zo (n:=(i:Int)+1) (by omega)
    by_cases hb:Ev.Tl v.txn table k v.n e=true
    ·rw[b7P hq he hb];obtain⟨g1,g2⟩:=c1o.1 hb;obtain⟨g3,g4,g5,g6⟩:=qw g1;have g7:=Vl.eq_iff.1 g6;simp-dsimp[Ww,Hs.cells,he,Ev.Z8 e,g2,g3,g4,g5,g7];exact⟨fun _=>⟨[4,6,7,12],by simp[JG,AV.Xj]⟩,fun hx=>absurd Zb (by omega)⟩
    ·have QJ:ZH (i+1) fun j=>∀e,h.events[j]? =some e->Ev.Tl v.txn table k v.n e=false:=hq.succ fun x hx=>by
      rw[he]at hx;cases hx;simpa using hb
     have D6:¬((e.kind=3/\e.txn=v.txn/\e.table=table/\e.key.text=k.text/\e.key.n=k.n/\e.key.s=k.s)/\e.n=v.n):=by
      rw[<-Ev.Yw, <-c1o];exact hb
     by_cases k3:e.kind=3
     ·by_cases k4:e.txn=v.txn
      ·by_cases k5:e.n=v.n
       ·by_cases k6:e.table=table
        ·have k7:¬(e.key.text=k.text/\e.key.n=k.n/\e.key.s=k.s):=fun g=>D6 ⟨⟨k3,k4,k6,g⟩,k5⟩
         simp-dsimp[Ww,Hs.cells,he,Ev.Z8 e,hw,k3,k4,k5,k6];exact⟨fun _=>⟨fun a b c=>(k7 ⟨a,b,c⟩).elim,fun _=>⟨Zb,QJ⟩⟩,fun hx=>absurd Zb (by omega)⟩
        ·simp-dsimp[Ww,Hs.cells,he,Ev.Z8 e,hw,k3,k4,k5,k6];exact⟨fun _=>⟨Zb,QJ⟩,fun hx=>absurd Zb (by omega)⟩
       ·simp-dsimp[Ww,Hs.cells,he,Ev.Z8 e,hw,k3,k4,k5];exact⟨fun _=>⟨Zb,QJ⟩,fun hx=>absurd Zb (by omega)⟩
      ·simp-dsimp[Ww,Hs.cells,he,Ev.Z8 e,hw,k3,k4];exact⟨fun _=>⟨Zb,QJ⟩,fun hx=>absurd Zb (by omega)⟩
     ·simp-dsimp[Ww,Hs.cells,he,Ev.Z8 e,hw,k3];exact⟨fun _=>⟨Zb,QJ⟩,fun hx=>absurd Zb (by omega)⟩
   ·rw[b8P (by omega) hq]
    have Vp:i=h.events.length:=by omega
    subst Vp;simp-dsimp[Ww,Hs.cells];exact⟨[4,6,7,8],by simp[JG,AV.Xj,YM]⟩
def Xf(t:Int):List Int->Nat
 | []=>0
 |a::r=>if a<t then Xf t r+1 else 0
def RS(l:List Int)(t:Int):List Int:=if l[Xf t l]? =some t then l else l.take (Xf t l)++t::l.drop (Xf t l)
def Jh(out:List Int)(e:Ev):List Int:=if e.kind=1 then RS out e.txn else out
def ZW(es:List Ev):List Int:=es.foldl Jh []
theorem c2A{es:List Ev}{i:Nat}{e:Ev}(h:es[i]? =some e):ZW (es.take (i+1))=Jh (ZW (es.take i)) e:=by
 unfold ZW;rw[a1J,h,a3U];rfl
theorem c3A(t:Int):∀l,Xf t l<=l.length
 | []=>a8F _
 |a::r=>by
  unfold Xf;split
  ·have:=c3A t r;simp only[a3O];omega
  ·omega
theorem c4A{t:Int}:∀{l:List Int} {j:Nat} {x:Int},j<Xf t l->l[j]? =some x->x<t
 | [],j,x,h,_=>by simp[Xf]at h
 |a::r,j,x,h,hx=>by
  unfold Xf at h;split at h
  ·rename_i ha
   cases j with
   |zero=>simp at hx;subst hx;exact ha
   |succ j=>exact c4A (l:=r) (j:=j) (by omega) (by simpa using hx)
  ·omega
theorem c5A{t:Int}:∀{l:List Int} {x:Int},l[Xf t l]? =some x->¬x<t
 | [],x,h=>by simp[Xf]at h
 |a::r,x,h=>by
  unfold Xf at h;split at h
  ·exact c5A (by simpa using h)
  ·rename_i ha;simp at h;subst h;exact ha
theorem c6A(l:List Int)(t:Int):(RS l t).length<=l.length+1:=by
 unfold RS;split
 ·omega
 ·simp only[a7J,a3O,a7S,List.length_drop];have:=c3A t l;omega
theorem c7A:∀(es:List Ev),(ZW es).length<=es.length:=by
 have:∀(es:List Ev) (l:List Int),(es.foldl Jh l).length<=l.length+es.length:=by
  intro es
  induction es with
  |nil=>intro l;simp
  |cons e es ih=>
   intro l;have:=ih (Jh l e)
   have h2:(Jh l e).length<=l.length+1:=by unfold Jh;split;exact c6A _ _;omega
   simp only[b0k,a3O];omega
 intro es;have:=this es [];simpa[ZW]using this
theorem c8A{l:List Int}{t x:Int}:x∈RS l t↔x∈l\/x=t:=by
 unfold RS;split
 ·rename_i h;have:=a8y h;exact⟨.inl,fun h=>h.elim id fun e=>e▸this⟩
 ·simp only[a1E,a2E]
  have:x∈l↔x∈l.take (Xf t l)\/x∈l.drop (Xf t l):=by
   rw[<-a1E,List.take_append_drop]
  rw[this];constructor
  ·rintro(h|h|h)
   ·exact .inl (.inl h)
   ·exact .inr h
   ·exact .inl (.inr h)
  ·rintro((h|h)|h)
   ·exact .inl h
   ·exact .inr (.inr h)
   ·exact .inr (.inl h)
theorem c9A{es:List Ev}{t:Int}:t∈ZW es↔∃e∈es,e.kind=1/\e.txn=t:=by
 have key:∀(es:List Ev) (l:List Int),t∈es.foldl Jh l↔t∈l\/∃e∈es,e.kind=1/\e.txn=t:=by
  intro es
  induction es with
  |nil=>intro l;simp
  |cons e es ih=>
   intro l;rw[b0k,ih];unfold Jh;split
   ·rename_i hk;rw[c8A];constructor
    ·rintro((h|h)|⟨x,h1,h2⟩)
     ·exact .inl h
     ·exact .inr ⟨e,a8C,hk,h.symm⟩
     ·exact .inr ⟨x,a2C _ h1,h2⟩
    ·rintro(h|⟨x,h1,h2,h3⟩)
     ·exact .inl (.inl h)
     ·rcases a2E.1 h1 with rfl|h1
      ·exact .inl (.inr h3.symm)
      ·exact .inr ⟨x,h1,h2,h3⟩
   ·rename_i hk;constructor
    ·rintro(h|⟨x,h1,h2⟩)
     ·exact .inl h
     ·exact .inr ⟨x,a2C _ h1,h2⟩
    ·rintro(h|⟨x,h1,h2,h3⟩)
     ·exact .inl h
     ·rcases a2E.1 h1 with rfl|h1
      ·exact absurd h2 hk
      ·exact .inr ⟨x,h1,h2,h3⟩
 simpa[ZW]using key es []
theorem c0B{l:List Int}{t:Int}(h:l.Pairwise (· < ·)):(RS l t).Pairwise (· < ·):=by
 unfold RS;split
 ·exact h
 ·rename_i ZS
  have h1:∀x∈l.take (Xf t l),x<t:=by
   intro x hx;obtain⟨i,hi⟩:=List.mem_iff_getElem?.1 hx;rw[List.getElem?_take]at hi;split at hi
   ·rename_i ZV;exact c4A ZV hi
   ·cases hi
  have h2:∀x∈l.drop (Xf t l),t<x:=by
   intro x hx;have hd:(l.drop (Xf t l)).Pairwise (· < ·):=h.sublist (d0s _ _)
   cases rr:l.drop (Xf t l)with
   |nil=>rw[rr]at hx;cases hx
   |cons y r=>
    have hy:l[Xf t l]? =some y:=by
     have:(l.drop (Xf t l))[0]? =some y:=by rw[rr];rfl
     simpa using this
    have h3:t<y:=by
     have:=c5A hy
     have:y≠t:=fun e=>ZS (by rw[hy,e])
     omega
    rw[rr]at hx hd
    rcases a2E.1 hx with rfl|hx
    ·exact h3
    ·have:=(b6P.1 hd).1 x hx;omega
  refine List.pairwise_append.2 ⟨h.sublist (d1r _ _),b6P.2 ⟨h2,h.sublist (d0s _ _)⟩,fun a ha b hb=>?_⟩
  rcases a2E.1 hb with rfl|hb
  ·exact h1 a ha
  ·have:=h1 a ha;have:=h2 b hb;omega
theorem c1B(es:List Ev):(ZW es).Pairwise (· < ·):=by
 have key:∀(es:List Ev) (l:List Int),l.Pairwise (· < ·)->(es.foldl Jh l).Pairwise (· < ·):=by
  intro es
  induction es with
  |nil=>intro l h;exact h
  |cons e es ih=>
   intro l h;refine ih _ ?_;unfold Jh;split
   ·exact c0B h
   ·exact h
 exact key es [] c9B
def Xc(es:List Ev)(l:List Int):List Int:=l.filter fun t=>decide (W6 es t=5)
theorem c2B{es:List Ev}{l:List Int}{i:Nat}{t:Int}(h:l[i]? =some t):Xc es (l.take (i+1))=if W6 es t=5 then Xc es (l.take i)++[t]else Xc es (l.take i):=by
 unfold Xc;rw[a1J,h,b3o]
 by_cases hz:W6 es t=5<;>simp[hz]
theorem c3B(es:List Ev)(l:List Int):(Xc es l).length<=l.length:=b9b _ _
theorem c4B{h:Hs}(hw:YP h):Xc h.events (ZW h.events)=Uk (XO h.events):=by
 have h1:(Xc h.events (ZW h.events)).Pairwise (· < ·):=(c1B _).filter _
 have hm:∀t,t∈Xc h.events (ZW h.events)↔t∈XO h.events:=by
  intro t;unfold Xc;rw[a0F,decide_eq_true_eq];constructor
  ·exact fun g=>qy g.2
  ·intro g;refine⟨?_,a1B hw g⟩;rw[c9A];unfold XO at g;obtain⟨e,he,rfl⟩:=a3E.1 g;rw[a0F,decide_eq_true_eq]at he;obtain⟨i,hi⟩:=a9B he.1;have hf:=(IE hw hi).1.1;obtain⟨x,hx,hxt⟩:=hf.2.2.2.2.2 (by omega)
   have key:∀j,j<=h.events.length->∀x,x∈h.events.take j->∃y,y∈h.events/\y.kind=1/\y.txn=x.txn:=by
    intro j
    induction j with
    |zero=>intro _ x hx;simp at hx
    |succ j ih=>
     intro hj x hx;obtain⟨z,hz⟩:=Zw (l:=h.events) (i:=j) (by omega);rw[a1J,hz]at hx
     rcases a1E.1 hx with hx|hx
     ·exact ih (by omega) x hx
     ·simp only[Option.toList_some,a2z]at hx;subst hx
      by_cases k1:x.kind=1
      ·exact⟨x,a8y hz,k1,rfl⟩
      ·obtain⟨y,hy,hyt⟩:=(IE hw hz).1.1.2.2.2.2.2 k1;obtain⟨q,q1,q2,q3⟩:=ih (by omega) y hy;exact⟨q,q1,q2,q3.trans hyt⟩
   obtain⟨y,y1,y2,y3⟩:=key i (by have:=(a7y.1 hi).1;omega) x hx;exact⟨y,y1,y2,y3.trans hxt⟩
 have WA:(Xc h.events (ZW h.events)).Nodup:=h1.imp fun h=>by omega
 have hp:(Xc h.events (ZW h.events)).Perm (XO h.events):=(c1S WA (a3B hw)).2 hm;have NF:(Xc h.events (ZW h.events)).Perm (Uk (XO h.events)):=hp.trans (c7j _ _).symm;refine NF.eq_of_pairwise (le:=fun a b:Int=>decide (a<=b)=true) ?_ ?_ ?_
 ·intro a b _ _ h1 h2;simp at h1 h2;omega
 ·exact h1.imp fun h=>by simp;omega
 ·exact c1V (by intro a b c;simp;omega) (by intro a b;simp;omega) _
theorem a6Q{h:Hs}(hlen:h.events.length<2^40):ZU prog false HY [h.av] [] (.iv (XJ (ZW h.events))) []:=by
 refine e6p [2,3] p7 (by simp[Hs.av]) (by decide) ?_;simp-dsimp[a6b,Hs.av,XJ];refine YZ [2,3] [3,5,7,59] h.events.length (fun i=>⟨[(4,vi i),(3, .iv (.Z6 1 (Yj (ZW (h.events.take i))))),(1, .ptr 1 0)],[(1, .box (h.cells.map .iv))]⟩) (fun _=>True) ?_ trivial ?_
 ·simp[Hs.cells,ZW,Yj]
 ·intro i hi _
  by_cases Zb:i<h.events.length
  ·have f0i:¬h.events.length<=i:=by omega
   obtain⟨x,hx⟩:=Zw Zb;have hiw:=Zo (n:=(i:Int)+1) (by omega);have rV:=c2A hx;have Rl:=c7A (h.events.take i);rw[a7S]at Rl;generalize ZW (h.events.take i)=out at*
   by_cases hk:x.kind=1
   ·have rV:ZW (h.events.take (i+1))=RS out x.txn:=by rw[rV];unfold Jh;rw[if_pos hk]
    simp-dsimp[SD,Hs.cells,f0i,hx,Ev.Z8 x,hk];intro _;have UN:=c3A x.txn out;refine YZ [] [] (Xf x.txn out) (fun k=>⟨[(6,vi k),(5, .ptr 5 0),(4,vi i),(3, .iv (.Z6 1 (Yj out))),(1, .ptr 1 0)],[(5, .box (x.cells.map .iv)),(1, .box (h.cells.map .iv))]⟩) (fun _=>True) ?_ trivial ?_
    ·simp[Hs.cells,Ev.Z8 x,hk]
    ·intro k UD _
     by_cases XL:k<Xf x.txn out
     ·have Qf:¬out.length<=k:=by omega
      obtain⟨y,hy⟩:∃y,out[k]? =some y:=Zw (by omega);have Em:=c4A XL hy;have hkw:=Zo (n:=(k:Int)+1) (by omega);simp-dsimp[RR,Hs.cells,Ev.Z8 x,hk,Qf,hy,Em,hkw,XL]
     ·have LG:k=Xf x.txn out:=by omega
      subst LG
      by_cases Qf:out.length<=Xf x.txn out
      ·simp-dsimp[RR,Hs.cells,Ev.Z8 x,hk,Qf]
       have hpe:Xf x.txn out=out.length:=by omega
       refine⟨by omega,by omega,by omega,by omega,by omega,by omega,by omega,by omega,Zb,hiw,?_⟩;rw[rV];unfold RS;rw[if_neg (by rw[List.getElem?_eq_none Qf];simp),hpe,a7I,List.drop_length,a2B (by simp),a2B (by simp)];simp[Yj]
      ·obtain⟨y,hy⟩:∃y,out[Xf x.txn out]? =some y:=Zw (by omega);have Em:=c5A hy
       by_cases hyt:y=x.txn
       ·simp-dsimp[RR,Hs.cells,Ev.Z8 x,hk,Qf,hy,Em,hyt];intro _;refine⟨Zb,hiw,?_⟩;rw[rV];unfold RS;rw[if_pos (by rw[hy,hyt])]
       ·simp-dsimp[RR,Hs.cells,Ev.Z8 x,hk,Qf,hy,Em,hyt];intro _;refine⟨by omega,by omega,by omega,by omega,by omega,by omega,by omega,by omega,Zb,hiw,?_⟩;rw[rV];unfold RS;rw[if_neg (by rw[hy];simpa using hyt),a2B (by simp;omega),a2B (l:=c3R (Xf x.txn out) (Yj out)) (by simp)]
        simp[Yj,c5V,d1Q]
   ·have rV:ZW (h.events.take (i+1))=out:=by rw[rV];unfold Jh;rw[if_neg hk]
    simp-dsimp[SD,Hs.cells,f0i,hx,Ev.Z8 x,hk,hiw,rV]
  ·have Vp:i=h.events.length:=by omega
   subst Vp;simp-dsimp[SD,Hs.cells]
theorem a7Q{h:Hs}(ZY:h.Ok)(hlen:h.events.length<2^40):ZU prog false Mn [h.av] [] (.iv (XJ (Xc h.events (ZW h.events)))) []:=by
 have Rl:=c7A h.events;refine TK pZ (by simp[Hs.av]) (by decide) ?_;simp-dsimp[a4a,Hs.av];refine Yk (a6Q hlen) rfl (by simp[Hs.av]) (by simp[Hs.av]) (by simp) (by simp) ?_;generalize hT:ZW h.events=T at*;simp-dsimp[XJ]
 refine YZ [2] [27] T.length (fun i=>⟨[(5,vi i),(4, .iv (.Z6 1 (Yj T))),(3, .sl 3 1 0 (Xc h.events (T.take i)).length),(1, .ptr 1 0)],
  [(3, .list 1 (Yj (Xc h.events (T.take i)))),(1, .box (h.cells.map .iv))]⟩) (fun _=>True) ?_ trivial ?_
 ·simp[Hs.cells,Xc,Yj]
 ·intro i hi _
  by_cases Zb:i<T.length
  ·obtain⟨t,ht⟩:=Zw Zb;have SC:=Zo (n:=(i:Int)+1) (by omega);have YL:=c2B (es:=h.events) ht;have NN:=c3B h.events (T.take i);rw[a7S]at NN;rw[YL];generalize Xc h.events (T.take i)=l0 at*;simp-dsimp[NA,Hs.cells,ht,Zc];refine⟨fun _=>?_,fun hx=>absurd Zb (by omega)⟩;refine Zu (b2P ZY t) (by simp[Hs.av]) (by simp[Hs.av]) ?_
   by_cases h5:W6 h.events t=5
   ·simp-dsimp[ht,SC,h5];exact⟨by omega,by omega,Zb,by simp[Yj]⟩
   ·simp-dsimp[ht,SC,h5];exact Zb
  ·have Vp:i=T.length:=by omega
   subst Vp;rw[a7I];simp-dsimp[NA,Hs.cells];have TL:a7U (Xc h.events T).length (Yj (Xc h.events T))=Yj (Xc h.events T):=a2B (by simp[Yj]);exact⟨[1,3],by simp[YR,AV.Xj,TL,XJ]⟩
def I2(l:List Eg):Prop:=l.length<2^40/\∀x,x∈l->x.key.s.size<2^63
theorem c6w{l:List Eg}(hl:I2 l)(e:Eg):ZU prog false Ta [.iv (Z5 l),e.av] [] (.iv (Z5 (YT l e))) []:=by
 refine TK jA (by simp[Eg.av]) (by decide) ?_;have hlen:=hl.1
 by_cases BT:e.ZX=e.to
 ·have hp:YT l e=l:=by unfold YT;rw[if_pos BT]
  rw[hp];simp-dsimp[d1h,Eg.av,Eg.cells,BT];exact⟨[3],by simp-dsimp[YR]⟩
 ·have hp:YT l e=Vh e l:=by unfold YT;rw[if_neg BT]
  rw[hp];simp-dsimp[d1h,Eg.av,Eg.cells,BT];refine YZ [4] [] l.length (fun i=>⟨[(5,vi i),(3, .ptr 3 0),(0, .iv (Z5 l))],[(3, .box (e.cells.map .iv))]⟩) (fun i=>∀j,j<i->∀x,l[j]? =some x->x.lss e=true) ?_ (fun j hj=>absurd hj (d5P _)) ?_
  ·simp-dsimp[Eg.cells]
  ·intro i hi hq
   rcases a6U i l.length with ZV|X3
   ·obtain⟨x,hx⟩:=Zw ZV;have hd:decide (i<l.length)=true:=decide_eq_true ZV;have SS:=Zo (n:=(i:Int)+1) (by omega);have hL:=c0X x e (hl.2 x (a8y hx));simp-dsimp[M7,Z5,Eg.cells,hx,hd];refine Zu hL (by simp[Eg.av,Eg.cells]) (by simp[Eg.av,Eg.cells]) ?_
    cases hs:x.lss e with
    |true=>
     simp-dsimp[hs,SS];refine⟨ZV,fun j hj y hy=>?_⟩
     rcases a6U j i with g|g
     ·exact hq j g y hy
     ·have:j=i:=by omega
      subst this;rw[hx]at hy;cases hy;exact hs
    |false=>
     by_cases NP:x=e
     ·subst NP
      have Gp:Vh x l=l:=by
       have:=c1r (e:=x) (k:=i) hi hq (fun y hy=>by rw[hx]at hy;cases hy;exact hs);rw[this,if_pos hx]
      simp-dsimp[hs,hx,hd,Eg.cells];refine⟨[3],?_⟩;rw[Gp];simp-dsimp[YR];rfl
     ·have Gp:Vh e l=l.take i++e::l.drop i:=by
       have:=c1r (e:=e) (k:=i) hi hq (fun y hy=>by rw[hx]at hy;cases hy;exact hs);rw[this,if_neg (by rw[hx];simpa using NP)]
      have ZS:¬(x.ZX=e.ZX/\x.to=e.to/\x.kind=e.kind/\x.table=e.table/\x.key.text=e.key.text/\x.key.n=e.key.n/\x.key.s=e.key.s/\x.ZN=e.ZN):=fun g=>
       NP (Eg.eq_iff.2 ⟨g.1,g.2.1,g.2.2.1,g.2.2.2.1,Vl.eq_iff.2 ⟨g.2.2.2.2.1,g.2.2.2.2.2.1,g.2.2.2.2.2.2.1⟩,g.2.2.2.2.2.2.2⟩)
      simp-dsimp[hs,hx,hd,Eg.cells];refine⟨fun a1 a2 a3 a4 a5 a6 a7 a8=>(ZS ⟨a1,a2,a3,a4,a5,a6,a7,a8⟩).elim,fun _=>?_⟩;rw[Nat.min_eq_left hi];refine⟨hi,by omega,by omega,by omega,by omega,hi,by omega,by omega,[3,6,47],?_⟩;simp-dsimp[YR,Z5];rw[Gp,a2B (by simp;omega)];simp[ZR,Eg.cells,c5V,d1Q]
      exact a2B (by simp)
   ·obtain rfl:i=l.length:=by omega
    have Gp:Vh e l=l++[e]:=by
     have:=c1r (k:=l.length) (a8F _) hq (fun x hx=>by simp at hx);rw[this];simp
    simp-dsimp[M7,Z5,Eg.cells];refine⟨by omega,by omega,by omega,by omega,by omega,by omega,[3,6,47],?_⟩;simp-dsimp[YR];rw[Gp,a2B (by simp)];simp[ZR,Eg.cells];exact a2B (by simp)
theorem c6N{α:Type}{p:α->Bool}:∀{l:List α},(∀(i j:Nat) (a b:α),l[i]? =some a->l[j]? =some b->p a=true->p b=true->i=j)->∀{e:α},e∈l->p e=true->l.filter p=[e]
 | [],_,_,he,_=>by cases he
 |x::r,hu,e,he,hp=>by
  by_cases hx:p x=true
  ·have hr:r.filter p=[]:=by
    rw[b0T];intro y hy hpy;obtain⟨j,hj⟩:=a9B hy;have:=hu 0 (j+1) x y rfl hj hx hpy;omega
   rw[c7B hx,hr]
   rcases a2E.1 he with rfl|he
   ·rfl
   ·have:e∈r.filter p:=a0F.2 ⟨he,hp⟩;rw[hr]at this;cases this
  ·rw[b2R hx]
   rcases a2E.1 he with rfl|he
   ·exact(hx hp).elim
   ·exact c6N (fun i j a b ha hb=>by
     intro h1 h2;have:=hu (i+1) (j+1) a b ha hb h1 h2
     omega) he hp
def TQ(es:List Ev)(table:Int)(k:Vl)(o:Ins):List Vs:=o.ZW.map fun t=>⟨t,(Yo es t table k:Int)⟩
def Uq(es:List Ev)(os:List Ins)(table:Int)(k:Vl):List Vs:=⟨0,0⟩::((os.filter (Ins.SI table k)).map (TQ es table k)).flatten
theorem c7N{es:List Ev}{os:List Ins}{table:Int}{k:Vl}{i:Nat}{o:Ins}(ho:os[i]? =some o):Uq es (os.take (i+1)) table k=if Ins.SI table k o=true then Uq es (os.take i) table k++TQ es table k o else Uq es (os.take i) table k:=by
 unfold Uq;rw[show os.take (i+1)=os.take i++[o] by rw[a1J,ho];rfl,b3o]
 by_cases hb:Ins.SI table k o=true
 ·rw[if_pos hb,c7B hb];simp
 ·rw[if_neg hb,b2R hb];simp
theorem c8N{h:Hs}(hw:YP h)(table:Int)(k:Vl):Uq h.events h.order table k=Zr h.events h.order table k:=by
 rw[a4B hw];unfold Uq Ey
 cases ho:Wc (Ins.SI table k) h.order with
 |none=>
  have:h.order.filter (Ins.SI table k)=[]:=by
   rw[b0T];intro o hm;rw[d2n]at ho;rw[ho o hm];simp
  rw[this];rfl
 |some o=>
  obtain⟨h1,h2⟩:=MF ho;rw[c6N (c7Z hw) h1 h2];simp[TQ]
theorem c9N{es:List Ev}{os:List Ins}{table:Int}{k:Vl}(i:Nat):(Uq es (os.take i) table k).length<=(Uq es os table k).length:=by
 unfold Uq;have h1:(os.take i).filter (Ins.SI table k)<+:os.filter (Ins.SI table k):=(List.take_prefix i os).filter _;obtain⟨r,hr⟩:=h1;rw[<-hr];simp
theorem c0O{h:Hs}(ZY:h.Ok)(hw:YP h)(XS:h.events.length<2^40)(table:Int)(k:Vl):ZU prog false R1 [h.av,vi table,k.av] [] (.iv (.Z6 2 (VI (Zr h.events h.order table k)))) []:=by
 rw[<-c8N hw]
 have hlen:(Uq h.events h.order table k).length<=h.events.length+1:=by rw[c8N hw];exact rE hw table k
 have g5o:=ZY.order;refine TK ib (by simp[Hs.av]) (by decide) ?_;simp-dsimp[a2a,Hs.av]
 refine YZ [6] [9] h.order.length (fun i=>⟨[(8,vi i),(7, .sl 13 2 0 (Uq h.events (h.order.take i) table k).length),(5, .ptr 5 0),(3, .ptr 3 0),(1,vi table)],
  [(13, .list 2 (VI (Uq h.events (h.order.take i) table k))),(5, .box (k.cells.map .iv)),(3, .box (h.cells.map .iv))]⟩) (fun _=>True) ?_ trivial ?_
 ·simp[Hs.cells,Uq,VI,Vs.cells]
 ·intro i hi _
  by_cases Zb:i<h.order.length
  ·obtain⟨o,ho⟩:=Zw Zb;have SC:=Zo (n:=(i:Int)+1) (by omega);have YL:=c7N (es:=h.events) (table:=table) (k:=k) ho;have NN:=c9N (es:=h.events) (os:=h.order) (table:=table) (k:=k) (i+1)
   by_cases hb:Ins.SI table k o=true
   ·rw[if_pos hb]at YL;rw[YL]at NN⊢;obtain⟨g1,g2⟩:=qx.1 hb;have g3:=Vl.eq_iff.1 g2;generalize Uq h.events (h.order.take i) table k=l0 at*;simp-dsimp[TR,Hs.cells,ho,Ins.Z8 o,g1,g3];refine⟨fun _=>?_,fun hx=>absurd Zb (by omega)⟩
    have LD:(TQ h.events table k o).length=o.ZW.length:=by simp[TQ]
    have SJ:=NN;rw[a7J,LD]at SJ
    refine YZ [] [63] o.ZW.length (fun j=>⟨[(10,vi j),(9, .ptr 9 0),(8,vi i),(7, .sl 13 2 0 (l0++(TQ h.events table k o).take j).length),(5, .ptr 5 0),(3, .ptr 3 0),(1,vi table)],
     [(9, .box (o.cells.map .iv)),(13, .list 2 (VI (l0++(TQ h.events table k o).take j))),(5, .box (k.cells.map .iv)),(3, .box (h.cells.map .iv))]⟩) (fun _=>True) ?_ trivial ?_
    ·simp[Hs.cells,Ins.Z8 o,g1,g3]
    ·intro j hj _
     by_cases RO:j<o.ZW.length
     ·obtain⟨t,ht⟩:=Zw RO;have Nl:=Zo (n:=(j:Int)+1) (by omega)
      have hvt:(TQ h.events table k o)[j]? =some ⟨t,(Yo h.events t table k:Int)⟩:=by
       unfold TQ;rw[a0C,ht];rfl
      simp-dsimp[PC,Hs.cells,Ins.Z8 o,ht,Zc];refine⟨fun _=>?_,fun hx=>absurd RO (by omega)⟩;refine Zu (pU ZY h.events.length t table k) (by simp[Hs.av]) (by simp[Hs.av]) ?_;rw[a7I];rw[show a7U (j+1) (TQ h.events table k o)=a7U j (TQ h.events table k o)++[⟨t,(Yo h.events t table k:Int)⟩] by rw[a1J,hvt];rfl]
      generalize TQ h.events table k o=w at*;simp-dsimp[Ins.Z8 o,ht,Nl];exact⟨by omega,by omega,RO,by omega,by simp[VI,Vs.cells]⟩
     ·have ru:j=o.ZW.length:=by omega
      subst ru;rw[show a7U o.ZW.length (TQ h.events table k o)=TQ h.events table k o by rw[<-LD];exact a7I];simp-dsimp[PC,Hs.cells,Ins.Z8 o,SC,Zb]
   ·rw[if_neg hb]at YL;rw[YL]
    have D6:¬(o.table=table/\o.key.text=k.text/\o.key.n=k.n/\o.key.s=k.s):=by
     intro g;exact hb (qx.2 ⟨g.1,Vl.eq_iff.2 g.2⟩)
    generalize Uq h.events (h.order.take i) table k=l0 at*
    by_cases g1:o.table=table
    ·simp-dsimp[TR,Hs.cells,ho,Ins.Z8 o,g1,SC];refine⟨fun _=>⟨fun _=>Zb,fun a b c=>(D6 ⟨g1,a,b,c⟩).elim⟩,fun hx=>absurd Zb (by omega)⟩
    ·simp-dsimp[TR,Hs.cells,ho,Ins.Z8 o,g1,SC]
     exact fun hx=>absurd Zb (by omega)
  ·have Vp:i=h.order.length:=by omega
   subst Vp;rw[a7I];simp-dsimp[TR,Hs.cells];exact⟨[3,5,13],by simp[YR,AV.Xj];exact a2B (by simp)⟩
theorem c1O{h:Hs}(ZY:h.Ok)(hw:YP h)(XS:h.events.length<2^40)(table:Int)(k:Vl)(v:Vs):ZU prog true L1 [h.av,vi table,k.av,v.av] [] (vi (Yg h.events h.order table k v)) []:=by
 have hR:=b1Q ZY table k v;rw[b0Q hw]at hR;refine YD cR (by simp[Hs.av]) (by decide) rfl ?_;simp-dsimp[a7c,Hs.av];refine Yk hR rfl (by simp[Hs.av]) (by simp[Hs.av]) (by simp) (by simp) ?_;simp-dsimp;refine Yk (c0O ZY hw XS table k) rfl (by simp[Hs.av]) (by simp[Hs.av]) (by simp) (by simp) ?_;have Rc:=rE hw table k;unfold Yg
 generalize Zr h.events h.order table k=l at*;generalize Wq h.events table k v=r at*;simp-dsimp
 cases r with
 |none=>
  refine YZ [] [] 0 (fun i=>⟨[(12,vi i),(11, .iv (.Z6 2 (VI l))),(10,vb false),(7, .ptr 7 0)],[(7, .box (v.cells.map .iv)),(6, .box (k.cells.map .iv)),(4, .box (h.cells.map .iv))]⟩) (fun _=>True) ?_ trivial ?_
  ·simp[Hs.cells]
  ·intro i hi _
   have GV:i=0:=by omega
   subst GV
   by_cases NN:0<l.length<;>simp-dsimp[RC,NN]
 |some r=>
  refine YZ [] [] l.length (fun i=>⟨[(12,vi i),(11, .iv (.Z6 2 (VI l))),(10,vb true),(7, .ptr 7 0)],[(7, .box (v.cells.map .iv)),(6, .box (k.cells.map .iv)),(4, .box (h.cells.map .iv))]⟩)
   (fun i=>ZH i fun j=>∀x,l[j]? =some x->decide (x.txn=v.txn)=false) ?_ ?_ ?_
  ·simp[Hs.cells]
  ·simp
  ·intro i hi hq
   by_cases Zb:i<l.length
   ·obtain⟨x,hx⟩:=Zw Zb;have SC:=Zo (n:=(i:Int)+1) (by omega)
    by_cases he:x.txn=v.txn
    ·have:=rO (p:=fun x:Vs=>decide (x.txn=v.txn)) hx (by simpa using he) hq;simp-dsimp[RC,hx,he,this];exact Zb
    ·have QJ:ZH (i+1) fun j=>∀x,l[j]? =some x->decide (x.txn=v.txn)=false:=hq.succ fun y hy=>by
      rw[hx]at hy;cases hy;simpa using he
     simp-dsimp[RC,hx,he,SC];exact⟨fun _=>⟨Zb,by simpa using QJ⟩,fun hx=>absurd Zb (by omega)⟩
   ·have Vp:i=l.length:=by omega
    have:=Ef (p:=fun x:Vs=>decide (x.txn=v.txn)) (l:=l) fun x hx=>by
     obtain⟨j,hj⟩:=a9B hx;exact hq j (by have:=(a7y.1 hj).1;omega) x hj
    subst Vp;simp-dsimp[RC,this]
theorem c5B{h:Hs}(ZY:h.Ok)(hw:YP h)(table:Int)(k:Vl)(v:Vs){p:Pd}(hp:p.Ok):ZU prog true Zj [h.av,vi table,k.av,v.av,p.av] [] (vb (Oa h.events table k p v)) []:=by
 have hR:=b1Q ZY table k v;rw[b0Q hw]at hR;have Yd:=e8m (table:=table) (k:=k) (v:=v) hw;have qG:=b4O (table:=table) (k:=k) (v:=v) (d1x hw);unfold Oa;refine YD jz (by simp[Hs.av]) (by decide) rfl ?_;simp-dsimp[a5f,Hs.av,Pd.Z4];refine Yk hR rfl (by simp[Hs.av]) (by simp[Hs.av]) (by simp) (by simp) ?_;generalize (Wq h.events table k v).getD []=r at*
 simp-dsimp;refine Zu (c6W hp r (by omega) Yd) (by simp[Pd.Z4]) (by simp[Pd.Z4]) ?_
 cases r with
 |nil=>simp-dsimp
 |cons x r=>
  simp-dsimp
theorem c6B{h:Hs}(ZY:h.Ok)(hw:YP h)(XS:h.events.length<2^40)(table:Int)(k:Vl)(Wm:Int){p:Pd}(hp:p.Ok):ZU prog true LZ [h.av,vi table,k.av,vi Wm,p.av] [] (vb (Uz h.events h.order table k Wm p)) []:=by
 have hH:=fun v=>c5B ZY hw table k v hp
 have hC:=c0O ZY hw XS table k;have Rc:=rE hw table k;refine YD jy (by simp[Hs.av]) (by decide) rfl ?_;unfold Uz;generalize Zr h.events h.order table k=l at*;simp-dsimp[a8c,Hs.av,Pd.Z4];refine Yk hC rfl (by simp[Hs.av]) (by simp[Hs.av]) (by simp) (by simp) ?_
 by_cases h1:Wm<1
 ·simp-dsimp[h1]
 ·by_cases h2:(l.length:Int)<=Wm
  ·simp-dsimp[h1,h2]
  ·obtain⟨n,hn⟩:∃n:Nat,Wm=(n:Int)+1:=⟨(Wm-1).toNat,by omega⟩;subst hn;obtain⟨u,hu⟩:∃u,l[n]? =some u:=Zw (by omega);obtain⟨v,hv⟩:∃v,l[n+1]? =some v:=Zw (by omega);have UY:=Zo (n:=(n:Int)) (by omega)
   have hg:(n:Int)+1=((n+1:Nat):Int):=by omega
   have jx:(0:Int)<=(n:Int)+1:=by omega
   have VW:((n:Int)+1).toNat=n+1:=by omega
   simp-dsimp[h1,h2,UY,hu,hv,jx,VW,Zc]
   repeat' refine c2O ?_ ?_
   all_goals refine Zu (hH u) (by simp[Hs.av,Pd.Z4]) (by simp[Hs.av,Pd.Z4]) ?_
   all_goals simp-dsimp[hv,jx,VW]
   all_goals refine Zu (hH v) (by simp[Hs.av,Pd.Z4]) (by simp[Hs.av,Pd.Z4]) ?_
   all_goals simp-dsimp
   all_goals (rw[hu,hv,decide_eq_false h1,decide_eq_false h2];rfl)
theorem d5A{l:List Eg}{e:Eg}(h:∀x,x∈l->x.key.s.size<2^63)(he:e.key.s.size<2^63):∀x,x∈YT l e->x.key.s.size<2^63:=by
 intro x hx;unfold YT at hx;split at hx
 ·exact h x hx
 ·rcases c6q.1 hx with rfl|hx
  ·exact he
  ·exact h x hx
theorem d6A(l:List Eg)(e:Eg):(YT l e).length<=l.length+1:=by
 have:=om (es:=[e]) (l:=l);simpa using this
def rdR(e:Ev)(p:Int)(c:List Vs)(l:List Eg):List Eg:=(Jj e p++Mz e p c).foldl YT l
def qQ(e:Ev)(p:Int)(c:List Vs)(l:List Eg):List Eg:=(Mz e p c).foldl YT l
theorem d7A{e:Ev}{p:Int}{c:List Vs}{l:List Eg}(h:p<0):rdR e p c l=l:=by
 unfold rdR Jj Mz;rw[if_neg (by omega),if_neg (by omega)];rfl
theorem d8A{e:Ev}{p:Int}{c:List Vs}{l:List Eg}(h:0<p):rdR e p c l=qQ e p c (YT l ⟨e.ZX.txn,e.txn,2,e.table,e.key,e.cur⟩):=by
 unfold rdR qQ Jj;rw[if_pos h];rfl
theorem d9A{e:Ev}{c:List Vs}{l:List Eg}:rdR e 0 c l=qQ e 0 c l:=by
 unfold rdR qQ Jj;rw[if_neg (by omega)];rfl
theorem d0B{e:Ev}{p:Int}{c:List Vs}{l:List Eg}(h:¬(0<=p/\p+1<c.length/\e.ZX.txn≠e.txn)):qQ e p c l=l:=by
 unfold qQ Mz;rw[if_neg h];rfl
theorem d1B{e:Ev}{p:Int}{c:List Vs}{l:List Eg}{v:Vs}(h:0<=p/\p+1<c.length/\e.ZX.txn≠e.txn)(hv:c[(p+1).toNat]? =some v):qQ e p c l=YT l ⟨e.txn,v.txn,4,e.table,e.key,e.cur⟩:=by
 unfold qQ Mz;rw[if_pos h,hv];rfl
theorem d2B{h:Hs}(ZY:h.Ok)(hw:YP h)(XS:h.events.length<2^40){e:Ev}(XR:e.Ok){l:List Eg}(hl:I2 l)(MG:l.length<2^39):
 ZU prog false H8 [h.av, .iv (Z5 l),e.av] [] (.iv (Z5 ((JT h e).foldl YT l))) []:=by
 have hC:=c0O ZY hw XS e.table e.key;have hP:=c1O ZY hw XS e.table e.key e.ZX;have ZV:=d7a h.events h.order e.table e.key e.ZX;have Rc:=rE hw e.table e.key;have hR:(JT h e).foldl YT l=rdR e (Yg h.events h.order e.table e.key e.ZX) (Zr h.events h.order e.table e.key) l:=rfl;rw[hR];generalize Yg h.events h.order e.table e.key e.ZX=p at*
 generalize Zr h.events h.order e.table e.key=c at*;refine TK e8M (by simp[Hs.av]) (by decide) ?_;simp-dsimp[d2h,Hs.av,Ev.av,Ev.Z8 e];refine Yk hC rfl (by simp[Hs.av]) (by simp[Hs.av]) (by simp) (by simp) ?_;simp-dsimp;refine Zu hP (by simp[Hs.av]) (by simp[Hs.av]) ?_;have UY:IntKind.i64.wrap (p+1)=p+1:=Zo (by omega)
 by_cases h0:p<0
 ·rw[d7A h0];simp-dsimp[h0];exact⟨[3,5],by simp-dsimp[YR]⟩
 ·have N1:=XR.key
  have f7m:∀(l1:List Eg),I2 l1->∀(v:Vs),c[(p+1).toNat]? =some v->ZU prog false Ta [.iv (Z5 l1), .agg [vi e.txn,vi v.txn,vi 4,vi e.table,vb e.key.text,vi e.key.n, .iv (.v (.string e.key.s)),vb e.cur]] [] (.iv (Z5 (YT l1 ⟨e.txn,v.txn,4,e.table,e.key,e.cur⟩))) []:=
   fun l1 h1 v _=>c6w h1 ⟨e.txn,v.txn,4,e.table,e.key,e.cur⟩
  by_cases h1:0<p
  ·have hq:I2 (YT l ⟨e.ZX.txn,e.txn,2,e.table,e.key,e.cur⟩):=⟨by have:=d6A l ⟨e.ZX.txn,e.txn,2,e.table,e.key,e.cur⟩;omega,d5A hl.2 N1⟩;have QT:=c6w hl ⟨e.ZX.txn,e.txn,2,e.table,e.key,e.cur⟩;rw[d8A h1];generalize YT l ⟨e.ZX.txn,e.txn,2,e.table,e.key,e.cur⟩=l1 at*;simp-dsimp[h0,h1]
   refine Yk QT rfl (by simp[Eg.av,Eg.cells]) (by simp[Eg.av,Eg.cells]) (by simp) (by simp) ?_
   by_cases h2:p+1<c.length
   ·by_cases h3:e.ZX.txn=e.txn
    ·rw[d0B fun g=>g.2.2 h3];simp-dsimp[UY,h2,h3];exact⟨[3,5],by simp-dsimp[YR]⟩
    ·obtain⟨v,hv⟩:∃v,c[(p+1).toNat]? =some v:=Zw (by omega)
     have hv':∀hh,(VI c)[(p+1).toNat]'hh=v.cells:=fun hh=>(a7y.1 (show(VI c)[(p+1).toNat]? =some v.cells by rw[d4n,hv];rfl)).2
     have h4:0<=p+1:=by omega
     rw[d1B ⟨by omega,h2,h3⟩ hv];simp-dsimp[UY,h2,h3,h4,hv',Zc];refine Yk (f7m l1 hq v hv) rfl (by simp) (by simp) (by simp) (by simp) ?_;simp-dsimp;exact⟨[3,5],by simp-dsimp[YR]⟩
   ·rw[d0B fun g=>h2 g.2.1];simp-dsimp[UY,h2];exact⟨[3,5],by simp-dsimp[YR]⟩
  ·obtain rfl:p=0:=by omega
   have hwz:IntKind.i64.wrap 1=1:=Zo (by omega);rw[d9A];simp-dsimp
   by_cases h2:1<c.length
   ·have O4:(1:Int)<c.length:=by omega
    have h2n:¬(c.length:Int)<=1:=by omega
    by_cases h3:e.ZX.txn=e.txn
    ·rw[d0B fun g=>g.2.2 h3];simp-dsimp[hwz,h2,O4,h2n,h3];exact⟨[3,5],by simp-dsimp[YR]⟩
    ·obtain⟨v,hv⟩:∃v,c[1]? =some v:=Zw h2
     have hv':∀hh,c[1]'hh=v:=fun hh=>(a7y.1 hv).2
     rw[d1B ⟨by omega,by omega,h3⟩ (by simpa using hv)];simp-dsimp[hwz,h2,O4,h2n,h3,hv',Zc];refine Yk (f7m l hl v (by simpa using hv)) rfl (by simp) (by simp) (by simp) (by simp) ?_;simp-dsimp;exact⟨[3,5],by simp-dsimp[YR]⟩
   ·have O4:¬(1:Int)<c.length:=by omega
    rw[d0B (by omega)];simp-dsimp[hwz,h2,O4]
    exact fun _=>⟨[3,5],by simp-dsimp[YR]⟩
theorem c7X:∀{es l:List Eg},(∀x,x∈l->x.key.s.size<2^63)->(∀x,x∈es->x.key.s.size<2^63)->∀x,x∈es.foldl YT l->x.key.s.size<2^63
 | [],_,h,_=>h
 |e::es,l,h,he=>by
  rw[b0k];exact c7X (es:=es) (d5A h (he e a8C)) (fun x hx=>he x (a2C _ hx))
theorem c8X{es l:List Eg}(hl:I2 l)(he:∀x,x∈es->x.key.s.size<2^63)(hn:l.length+es.length<2^40):I2 (es.foldl YT l):=
 ⟨by have:=om (es:=es) (l:=l);omega,c7X hl.2 he⟩
theorem c9X{h:Hs}{e:Ev}{k:Vl}{p:Int}{i:Nat}{x:Eg}(hx:x∈Qi h e k p i):x.key=k:=by
 unfold Qi at hx;split at hx
 ·rw[a2z]at hx
  split at hx<;>subst hx<;>rfl
 ·cases hx
theorem c0Y{h:Hs}{e:Ev}{k:Vl}{x:Eg}(hx:x∈QL h e k):x.key=k:=by
 unfold QL at hx;split at hx
 ·cases hx
 ·obtain⟨j,_,hj⟩:=mem_range.1 hx;exact c9X hj
theorem c1Y{h:Hs}(ZY:h.Ok){e:Ev}{o:Ins}(ho:o∈h.order){x:Eg}(hx:x∈QK h e o):x.key.s.size<2^63:=by
 unfold QK at hx;split at hx
 ·rw[c0Y hx];exact ZY.e7B o ho
 ·cases hx
theorem c2Y(h:Hs)(e:Ev)(k:Vl)(p:Int)(i:Nat):(Qi h e k p i).length<=1:=by
 unfold Qi;split<;>simp
theorem c3Y{h:Hs}(hw:YP h)(hm:h.NM)(e:Ev)(o:Ins):(QK h e o).length<=200:=by
 unfold QK;split
 ·unfold QL;split
  ·simp
  ·have:=IW (f:=Qi h e o.key (Yg h.events h.order e.table o.key (Wb e.refs o.key))) (B:=1) (l:=a0I (Zr h.events h.order e.table o.key).length) fun j _=>c2Y ..
   rw[c9J]at this;have:=rE hw e.table o.key;have:=hm.1;omega
 ·simp
def Qn(h:Hs)(e:Ev)(l:List Eg)(i:Nat):List Eg:=((h.order.take i).flatMap (QK h e)).foldl YT l
theorem c4Y{h:Hs}{e:Ev}{l:List Eg}{i:Nat}{o:Ins}(ho:h.order[i]? =some o):Qn h e l (i+1)=(QK h e o).foldl YT (Qn h e l i):=by
 unfold Qn;rw[show h.order.take (i+1)=h.order.take i++[o] by rw[a1J,ho];rfl,c4F,a3U];simp
def IU(h:Hs)(e:Ev)(k:Vl)(p:Int)(l:List Eg)(j:Nat):List Eg:=((a0I j).flatMap (Qi h e k p)).foldl YT l
theorem c5Y(h:Hs)(e:Ev)(k:Vl)(p:Int)(l:List Eg)(j:Nat):IU h e k p l (j+1)=(Qi h e k p j).foldl YT (IU h e k p l j):=by
 unfold IU;rw[List.range_succ,c4F,a3U];simp
theorem c6Y(h:Hs)(e:Ev)(k:Vl)(p:Int)(l:List Eg):IU h e k p l 1=l:=by
 rw[c5Y]
 have:Qi h e k p 0=[]:=by
  have hc:Uz h.events h.order e.table k ((0:Nat):Int) e.pred=false:=by
   unfold Uz;exact if_pos (.inl (by decide))
  unfold Qi;rw[hc];rfl
 rw[this];rfl
theorem c7Y{l:List Rf}{q:Nat}{r:Rf}(hr:l[q]? =some r)(k:Vl):Wb (l.take (q+1)) k=if r.key=k then r.ZX else Wb (l.take q) k:=by
 unfold Wb;rw[show l.take (q+1)=l.take q++[r] by rw[a1J,hr];rfl,NJ]
 by_cases hk:r.key=k
 ·rw[if_pos (by simpa using hk),if_pos hk];rfl
 ·rw[if_neg (by simpa using hk),if_neg hk]
theorem c8Y{h:Hs}(ZY:h.Ok)(hw:YP h)(hm:h.NM){e:Ev}(XR:e.Ok){l:List Eg}(hl:I2 l)(MG:l.length<2^38):
 ZU prog false H7 [h.av, .iv (Z5 l),e.av] [] (.iv (Z5 ((Il h e).foldl YT l))) []:=by
 have XS:h.events.length<2^40:=by have:=hm.1;omega
 have hE:(Il h e).foldl YT l=Qn h e l h.order.length:=by unfold Il Qn;rw[a7I]
 rw[hE];refine TK e8B (by simp[Hs.av]) (by decide) ?_;simp-dsimp[d3h,Hs.av,Ev.av,Ev.Z8 e]
 refine YZ [6] [8,9] h.order.length (fun i=>⟨[(7,vi i),(5, .ptr 5 0),(3, .ptr 3 0),(1, .iv (Z5 (Qn h e l i)))],
  [(5, .box (e.cells.map .iv)),(3, .box [.iv (.Z6 1 (Zd h.tables)), .iv (.Z6 22 (Zi h.events)), .iv (.Z6 5 (Zh h.order))])]⟩) (fun _=>True) ?_ trivial ?_
 ·simp-dsimp[Ev.Z8 e,Qn]
 ·intro i hi _
  rcases a6U i h.order.length with ZV|X3
  ·obtain⟨o,ho⟩:=Zw ZV;have hd:decide (i<h.order.length)=true:=decide_eq_true ZV;have SS:=Zo (n:=(i:Int)+1) (by have:=hm.2;omega);have hom:=a8y ho
   have hLi:I2 (Qn h e l i):=c8X hl (fun x hx=>by
    rw[a2N]at hx;obtain⟨o',XQ,hx⟩:=hx
    exact c1Y ZY (List.mem_of_mem_take XQ) hx) (by
    have:=IW (f:=QK h e) (B:=200) (l:=h.order.take i) fun o' _=>c3Y hw hm e o'
    have h2:(h.order.take i).length<=100:=by rw[a7S];have:=hm.2;omega
    have:=a5E 200 h2
    omega)
   have hLn:(Qn h e l i).length<2^39:=by
    have h1:=om (es:=(h.order.take i).flatMap (QK h e)) (l:=l)
    have:=IW (f:=QK h e) (B:=200) (l:=h.order.take i) fun o' _=>c3Y hw hm e o'
    have h2:(h.order.take i).length<=100:=by rw[a7S];have:=hm.2;omega
    have:=a5E 200 h2
    show(((h.order.take i).flatMap (QK h e)).foldl YT l).length<2^39
    omega
   have Zy:=c4Y (e:=e) (l:=l) ho
   by_cases ht:o.table=e.table
   ·simp-dsimp[Si,ho,hd,Ins.Z8 o,Ev.Z8 e,ht,Zc]
    refine YZ [] [] e.refs.length (fun q=>⟨[(10,vi q),(9, .ptr 9 0),(8, .ptr 8 0),(7,vi i),(5, .ptr 5 0),(3, .ptr 3 0),(1, .iv (Z5 (Qn h e l i)))],
     [(9, .box ((Wb (e.refs.take q) o.key).cells.map .iv)),(8, .box (o.cells.map .iv)),(5, .box (e.cells.map .iv)),(3, .box [.iv (.Z6 1 (Zd h.tables)), .iv (.Z6 22 (Zi h.events)), .iv (.Z6 5 (Zh h.order))])]⟩) (fun _=>True) ?_ trivial ?_
    ·simp-dsimp[Ev.Z8 e,Ins.Z8 o,ht,Wb,d0n]
    ·intro q hq _
     rcases a6U q e.refs.length with Rz|f4Q
     ·obtain⟨r,hr⟩:=Zw Rz;have hqd:decide (q<e.refs.length)=true:=decide_eq_true Rz;have Jw:=Zo (n:=(q:Int)+1) (by have:=XR.refs;omega);have YL:=c7Y hr o.key
      by_cases hk:r.key=o.key
      ·rw[if_pos hk]at YL;simp-dsimp[Sh,Ev.Z8 e,Ins.Z8 o,hr,hqd,Rf.Z8 r,hk,Jw,YL,Zc];exact Rz
      ·rw[if_neg hk]at YL
       have ZS:¬(r.key.text=o.key.text/\r.key.n=o.key.n/\r.key.s=o.key.s):=fun g=>hk (Vl.eq_iff.2 g)
       simp-dsimp[Sh,Ev.Z8 e,Ins.Z8 o,hr,hqd,Rf.Z8 r,Jw,YL];exact⟨fun a b c=>(ZS ⟨a,b,c⟩).elim,fun _=>Rz⟩
     ·obtain rfl:q=e.refs.length:=by omega
      rw[a7I];simp-dsimp[Sh,Ev.Z8 e,Ins.Z8 o];have hPl:=c1O ZY hw XS e.table o.key (Wb e.refs o.key);have hCh:=c0O ZY hw XS e.table o.key;have Rc:=rE hw e.table o.key;have hcp:=b6O h.events h.order e.table o.key
      have hCg:∀n:Int,ZU prog true LZ [h.av,vi e.table,o.key.av,vi n,e.pred.av] [] (vb (Uz h.events h.order e.table o.key n e.pred)) []:=fun n=>c6B ZY hw XS e.table o.key n XR.pred
      refine Zu hPl (by simp[Hs.av,ht]) (by simp[Hs.av]) ?_
      have hO:QK h e o=QL h e o.key:=by unfold QK;rw[if_pos ht]
      rw[hO]at Zy;have hos:=ZY.e7B o hom
      by_cases Vd:Yg h.events h.order e.table o.key (Wb e.refs o.key)<0\/(Wb e.refs o.key).txn=e.txn
      ·have hK:QL h e o.key=[]:=by unfold QL;rw[if_pos Vd]
       rw[hK,b1T]at Zy
       by_cases h1:(Wb e.refs o.key).txn=e.txn
       ·simp-dsimp[h1,SS,Zy];exact ZV
       ·have h0:=Vd.resolve_right h1;simp-dsimp[h0,h1,SS,Zy];exact ZV
      ·have h0:¬Yg h.events h.order e.table o.key (Wb e.refs o.key)<0:=fun g=>Vd (.inl g)
       have h1:¬(Wb e.refs o.key).txn=e.txn:=fun g=>Vd (.inr g)
       have hK:(QL h e o.key).foldl YT (Qn h e l i)=IU h e o.key (Yg h.events h.order e.table o.key (Wb e.refs o.key)) (Qn h e l i) (Zr h.events h.order e.table o.key).length:=by
        unfold QL IU;rw[if_neg Vd]
       rw[hK]at Zy;have W8:=c5Y h e o.key (Yg h.events h.order e.table o.key (Wb e.refs o.key)) (Qn h e l i);have S2:=c6Y h e o.key (Yg h.events h.order e.table o.key (Wb e.refs o.key)) (Qn h e l i)
       have VE:∀j:Nat,Qi h e o.key (Yg h.events h.order e.table o.key (Wb e.refs o.key)) j=if Uz h.events h.order e.table o.key j e.pred=true then
        [if(j:Int)<=Yg h.events h.order e.table o.key (Wb e.refs o.key)then⟨(((Zr h.events h.order e.table o.key)[j]?).getD ⟨0,0⟩).txn,e.txn,3,e.table,o.key,false⟩else⟨e.txn,(((Zr h.events h.order e.table o.key)[j]?).getD ⟨0,0⟩).txn,5,e.table,o.key,false⟩]else[]:=fun j=>rfl
       have hMj:∀j,j<=200->I2 (IU h e o.key (Yg h.events h.order e.table o.key (Wb e.refs o.key)) (Qn h e l i) j):=fun j hj=>c8X hLi (fun x hx=>by
        obtain⟨q,_,hx⟩:=mem_range.1 hx
        rw[c9X hx];exact hos) (by
        have:=IW (f:=Qi h e o.key (Yg h.events h.order e.table o.key (Wb e.refs o.key))) (B:=1) (l:=a0I j) fun q _=>c2Y ..
        rw[c9J]at this
        omega)
       generalize Yg h.events h.order e.table o.key (Wb e.refs o.key)=p at*;generalize Zr h.events h.order e.table o.key=c at*;simp-dsimp[h0,h1];refine Yk hCh rfl (by simp[Hs.av,ht]) (by simp[Hs.av]) (by simp) (by simp) ?_;simp-dsimp
       refine YZ [] [] (c.length-1) (fun j=>⟨[(13,vi (j+1:Nat)),(12, .iv (.Z6 2 (VI c))),(11,vi p),(9, .ptr 9 0),(8, .ptr 8 0),(7,vi i),(5, .ptr 5 0),(3, .ptr 3 0),(1, .iv (Z5 (IU h e o.key p (Qn h e l i) (j+1))))],
        [(9, .box ((Wb e.refs o.key).cells.map .iv)),(8, .box (o.cells.map .iv)),(5, .box (e.cells.map .iv)),(3, .box [.iv (.Z6 1 (Zd h.tables)), .iv (.Z6 22 (Zi h.events)), .iv (.Z6 5 (Zh h.order))])]⟩) (fun _=>True) ?_ trivial ?_
       ·simp-dsimp[Ev.Z8 e,Ins.Z8 o,S2]
       ·intro j hj _
        rcases a6U (j+1) c.length with Xk|P4
        ·obtain⟨v,hv⟩:=Zw Xk;have SQ:decide ((j:Int)+1<c.length)=true:=decide_eq_true (by omega);have hjw:IntKind.i64.wrap ((j:Int)+1+1)=(j:Int)+1+1:=Zo (by have:=hm.1;omega);have Jv:=W8 (j+1);have Pp:=VE (j+1);rw[hv]at Pp;simp-dsimp[Po,Ev.Z8 e,Ins.Z8 o,SQ];have hMM:=hMj (j+1) (by have:=hm.1;omega)
         refine Zu (hCg ((j:Int)+1)) (by simp[Hs.av,Pd.Z4,ht]) (by simp[Hs.av,Pd.Z4]) ?_
         have f4l:(((j+1:Nat):Int))=(j:Int)+1:=by omega
         rw[f4l]at Pp
         have VW:((j:Int)+1).toNat=j+1:=by omega
         have jx:(0:Int)<=(j:Int)+1:=by omega
         cases Ry:Uz h.events h.order e.table o.key ((j:Int)+1) e.pred with
         |false=>
          rw[Ry,if_neg (by simp)]at Pp;rw[Pp,b1T]at Jv;simp-dsimp[Ry,hjw,Jv];omega
         |true=>
          rw[Ry,if_pos rfl]at Pp
          by_cases hle:(j:Int)+1<=p
          ·rw[if_pos hle]at Pp;rw[Pp,b0k,b1T]at Jv;have QT:=c6w hMM ⟨v.txn,e.txn,3,e.table,o.key,false⟩;have FY:YT (IU h e o.key p (Qn h e l i) (j+1)) ⟨v.txn,e.txn,3,e.table,o.key,false⟩=IU h e o.key p (Qn h e l i) (j+1+1):=Jv.symm;rw[FY]at QT;simp-dsimp[Ry,hle,hv,VW,jx,Zc]
           refine Yk QT rfl (by simp[Eg.av,Eg.cells,ht]) (by simp[Eg.av,Eg.cells]) (by simp) (by simp) ?_;simp-dsimp[hjw];omega
          ·rw[if_neg hle]at Pp;rw[Pp,b0k,b1T]at Jv;have QT:=c6w hMM ⟨e.txn,v.txn,5,e.table,o.key,false⟩;have FY:YT (IU h e o.key p (Qn h e l i) (j+1)) ⟨e.txn,v.txn,5,e.table,o.key,false⟩=IU h e o.key p (Qn h e l i) (j+1+1):=Jv.symm;rw[FY]at QT;simp-dsimp[Ry,hle,hv,VW,jx,Zc]
           refine Yk QT rfl (by simp[Eg.av,Eg.cells,ht]) (by simp[Eg.av,Eg.cells]) (by simp) (by simp) ?_;simp-dsimp[hjw];omega
        ·have SQ:decide ((j:Int)+1<c.length)=false:=decide_eq_false (by omega)
         have RO:j+1=c.length:=by omega
         rw[RO];simp-dsimp[Po,Ev.Z8 e,Ins.Z8 o,SQ,SS,Zy];exact ZV
   ·have hO:QK h e o=[]:=by unfold QK;rw[if_neg ht]
    rw[hO,b1T]at Zy;simp-dsimp[Si,ho,hd,Ins.Z8 o,Ev.Z8 e,ht,SS,Zy];exact ZV
  ·obtain rfl:i=h.order.length:=by omega
   simp-dsimp[Si];exact⟨[3,5],by simp-dsimp[YR]⟩
end Go.Rt
end
