/- Contracts of functions of the program, and what they lean on. Conditions: those of each theorem. -/
import Derived.Test.YthkdpdpgmhmgoaaGreatSpMD
import Derived.Test.YthkdpdpgmhmgoaaGreatSpME
import Derived.Test.YthkdpdpgmhmgoaaGreatSpMC
import Derived.Test.YthkdpdpgmhmgoaaGreatRows

set_option linter.unusedVariables false
set_option linter.unusedSimpArgs false
set_option linter.unusedSectionVars false
set_option maxHeartbeats 64000000
set_option maxRecDepth 100000
open And renaming intro->b5Z
open Bool renaming false_eq_true->a1N,eq_false_iff->d3m,true_and->c0S,eq_iff_iff->b4H,and_eq_true->a3C
open Classical renaming byContradiction->a9M
open Function renaming comp->d2W
open Int renaming eq_ofNat_of_zero_le->c3y,toNat_natCast->c4c,natCast_add->c0O,le_refl->d3t
open List renaming length_eq_zero_iff->a1S,mem_of_getElem?->a6y,getElem?_eq_some_iff->a5y,getElem?_of_mem->a9B,getElem?_take->a8R,length_take->a3U,length_pos_iff->a6I,mem_append->a9E,mem_singleton->a1B,take_of_length_le->a0z,take_length->a6J,getElem?_map->a1C,getElem?_tail->c1E,length_map->a5O,length_tail->c4I,take_add_one->a3I,flatMap_append->c7B,foldl_append->a5U,mem_flatMap->a2O,length_append->a7J,mem_of_mem_take->a6U,length_nil->c2i,foldl_nil->b4Z,mem_cons_self->a4E,length_cons->a4S,mem_cons_of_mem->a9C,map_cons->a0I,range->a7I,mem_map->a0E,mem_range->a6V,append_nil->b9o,take->a1V,map->d8i,dropLast_concat_getLast->c0N,ne_nil_of_mem->c3u,length_singleton->b4p,length_filter_le->a0V,all_eq_true->a8C,mem_filter->a2E,mem_mergeSort->d3k,any_eq_true->b9G,any_cons->c9B,findIdx?_cons->d7k,map_take->c7D,mem_cons->a5E,filter_eq_nil_iff->b3Z,eq_nil_iff_forall_not_mem->c5I,nodup_cons->b2H,idxOf_cons->d1A,mem_append_left->a7N,map_append->a5M,nodup_append->b6n,tail_append_of_ne_nil->c7P,getElem?_append_left->a9L,getElem_inj->d8t,replicate->a2N,length_replicate->c3B,eraseIdx_eq_take_drop_succ->c1H,length_eraseIdx_of_lt->c7p,countP_cons->d2u,filter_append->b4j,eraseIdx_sublist->c8A,drop->c5P,filter_congr->d2n,not_mem_nil->b1E,filter_map->d3A,filter_eq_self->d4i
open Nat renaming mul_le_mul_right->a0G,lt_or_ge->b5j,le_refl->a8F,lt_of_le_of_lt->c3I
open Option renaming map_eq_some_iff->a9R,bind_eq_some_iff->b6v,map_map->c7i
open Option.some renaming injEq->a3y
open Prod.mk renaming injEq->a2L

section
namespace Go.Rt
open Go.Vm
theorem c1z(v:Vl):ZX prog true NS [v.av] [] (vb v.right) []:=by
 refine YG de (by simp) (by decide) rfl ?_;simp-dsimp[a2h,Vl.right]
 grind
theorem c2z(t:Tb):ZX prog true NZ [YK t] [] (vb (Y7 (WB t))) []:=by
 refine YG dc (by simp) (by decide) rfl ?_;simp-dsimp[a9c,YK,V4,Tf,WB, -a1S];omega
theorem c3z(t:Tb)(r:List Vl):ZX prog true Gc [YK t, .iv (oM r)] [] (vb (Y7 (Fits t r))) []:=by
 refine YG db (by simp) (by decide) rfl ?_;simp-dsimp[a8f,YK];refine ZN (c2z t) (by simp[YK]) rfl ?_;simp-dsimp[V4,oM, -a1S];refine⟨fun h1=>⟨fun h3 h=>by have:=h.2.1;omega,fun h3=>?_⟩,fun h h'=>h h'.1⟩
 refine YJ [] [] r.length (fun i=>⟨[(6,vi i),(1, .iv (.Z6 3 (r.map Vl.cells))),(2, .ptr 2 0)],[(2, .box [.iv (.Z6 1 (nT t))])]⟩)
  (fun i=>ZK i (e2k t r)) ?_ ?_ ?_
 ·simp
 ·simp
 ·intro i hi hq;have h2:=h1.2;simp-dsimp[JU];refine⟨fun Z2=>?_,fun X9=>?_⟩
  ·obtain⟨v,hv⟩:=Zr Z2;obtain⟨c,hc⟩:∃c,t[i]? =some c:=Zr (by omega);simp-dsimp[hv,hc];refine ZN (c1z v) (by simp) rfl ?_;simp-dsimp[hv,hc];exact⟨fun e2=>⟨fun e=>e3k hv hc fun h=>e h.1,fun e=>⟨Z2,Zk (by omega),hq.succ (e4k hv hc ⟨e,e2⟩)⟩⟩,fun e2=>e3k hv hc (by simp[e2])⟩
  ·exact⟨h1,by omega,fun j hj=>hq j (by omega)⟩
theorem c4z(t:Tb)(i:Int)(v:Vl):ZX prog true NP [YK t,vi i,v.av] [] (vb (Y7 (Is t i v))) []:=by
 refine YG da (by simp) (by decide) rfl ?_;simp-dsimp[c2K,YK];refine ZN (c1z v) (by simp) rfl ?_;simp-dsimp[V4];refine⟨fun h1=>⟨fun h2=>?_,fun h2 h=>by have:=h.2.1;omega⟩,fun h1 h=>by have:=h.1;omega⟩;obtain⟨k,rfl⟩:=c3y h1;obtain⟨c,hc⟩:∃c,t[k]? =some c:=Zr (by omega)
 refine⟨fun h3=>⟨h1,?_⟩,fun h3 h=>by have:=h.2.2.2;rw[h3]at this;cases this⟩
 simp-dsimp[hc,Tf,b9I hc,h3]
theorem Pd.Ni(t:Tb)(p:Pd):p.Vj t↔TF t p/\Pd.Vu t p.l:=by cases p;rw[Pd.Vj];rfl
theorem Pd.Uc(t:Tb):∀l:List Pd,Pd.Vu t l↔∀p,p∈l->p.Vj t
 | []=>by simp[Pd.Vu]
 |p::r=>by simp[Pd.Vu,Pd.Uc t r]
theorem c5z{t:Tb}{p:Pd}{i:Nat}{q:Pd}(h:p.l[i]? =some q)(hq:¬q.Vj t):¬p.Vj t:=fun g=>
 hq ((Pd.Uc t p.l).1 ((Pd.Ni t p).1 g).2 q (a6y h))
theorem c6z(t:Tb){p:Pd}(h:p.Ok):ZX prog true KS [YK t,p.av] [] (vb (Y7 (p.Vj t))) []:=by
 induction h with
 |mk p hl _ _ hq ih=>
 refine YG c9 (by simp) (by decide) rfl ?_;simp-dsimp[c9J,Pd.Z5,YK]
 refine YJ [] [] p.l.length (fun i=>⟨[(5,vi i),(2, .ptr 2 0),(3, .ptr 3 0)],[(3,p.box),(2, .box [.iv (V4 t)])]⟩)
  (fun i=>ZK i fun j=>∀q,p.l[j]? =some q->q.Vj t) ?_ ?_ ?_
 ·simp[Pd.box]
 ·simp
 ·intro i hi hqq
  have Ms:((p.l.length:Int)==0)=Y7 (p.l.length=0):=by rw[Tf,beq_iff_eq];omega
  have kY:((p.l.length:Int)==1)=Y7 (p.l.length=1):=by rw[Tf,beq_iff_eq];omega
  have kX:(decide (0<(p.l.length:Int)))=Y7 (0<p.l.length):=by rw[Tf,decide_eq_true_eq];omega
  by_cases Z2:i<p.l.length
  ·obtain⟨q,VE⟩:=Zr Z2;have hw:IntKind.i64.wrap ((i:Int)+1)=(i:Int)+1:=Zk (by omega);have hqe:=(a5y.1 VE).2;simp-dsimp[UW,Pd.box,Z2,hqe,Pd.Z8 q];refine ZN (ih q (a6y VE)) (by simp[Pd.Z5,YK]) (by simp[Pd.Z5,YK]) ?_;simp-dsimp[hw]
   refine⟨fun e=>c5z VE e,fun e=>hqq.succ fun q' h'=>by rw[VE]at h';cases h';exact e⟩
  ·have e0:p.Vj t↔TF t p:=by
    rw[Pd.Ni,Pd.Uc];refine⟨fun h=>h.1,fun h=>⟨h,fun q hq=>?_⟩⟩;obtain⟨j,hj⟩:=a9B hq;exact hqq j (by have:=(a5y.1 hj).1;omega) q hj
   have Na:(p.op=1\/p.op=2)\/(p.op=3\/p.op=4\/p.op=5\/p.op=6\/p.op=7\/p.op=8)\/p.op=9\/p.op=10\/(p.op=11\/p.op=12)\/(p.op<1\/12<p.op):=by omega
   rcases Na with h|h|h|h|h|h
   ·have e:TF t p↔p.l.length=0:=by unfold TF;rw[if_pos h]
    rcases h with h|h<;>simp-dsimp[UW,Pd.box,Z2,h,Ms,e,e0]
   ·have e:TF t p↔p.l.length=0/\Is t p.col p.v:=by
     unfold TF;rw[if_neg (by omega),if_pos (by omega)]
    rcases h with h|h|h|h|h|h
    all_goals
     simp-dsimp[UW,Pd.box,Z2,h,Ms,e,e0];refine⟨fun h0=>?_,fun h0=>?_⟩
     ·refine ZN (c4z t p.col p.v) (by simp[YK]) (by simp[YK]) ?_;simp-dsimp[h0,e,e0]
     ·simp-dsimp[h0,e,e0]
   ·have e:TF t p↔p.l.length=0/\Is t p.col p.v/\Is t p.col p.w:=by
     unfold TF;rw[if_neg (by omega),if_neg (by omega),if_pos (by omega)]
    simp-dsimp[UW,Pd.box,Z2,h,Ms,e,e0];refine⟨fun h0=>?_,fun h0=>?_⟩
    ·refine ZN (c4z t p.col p.v) (by simp[YK]) (by simp[YK]) ?_;simp-dsimp;refine⟨fun h1=>?_,fun h1=>?_⟩
     ·refine ZN (c4z t p.col p.w) (by simp[YK]) (by simp[YK]) ?_;simp-dsimp[h0,h1,e,e0]
     ·simp-dsimp[h0,h1,e,e0]
    ·simp-dsimp[h0,e,e0]
   ·have e:TF t p↔p.l.length=1:=by
     unfold TF;rw[if_neg (by omega),if_neg (by omega),if_neg (by omega),if_pos h]
    simp-dsimp[UW,Pd.box,Z2,h,kY,e,e0]
   ·have e:TF t p↔0<p.l.length:=by
     unfold TF;rw[if_neg (by omega),if_neg (by omega),if_neg (by omega),if_neg (by omega),if_pos h]
    rcases h with h|h<;>simp-dsimp[UW,Pd.box,Z2,h,kX,e,e0,Tf]
   ·have e:¬TF t p:=by
     unfold TF;rw[if_neg (by omega),if_neg (by omega),if_neg (by omega),if_neg (by omega),if_neg (by omega)];exact id
    have ne:∀k:Int,1<=k->k<=12->(p.op==k)=false:=fun k h1 h2=>by rw[beq_eq_false_iff_ne];omega
    simp-dsimp[UW,Pd.box,Z2,e,e0,ne]
theorem c7z(t:Tb){p:Pd}(h:p.Ok):ZX prog true Gb [YK t,p.av] [] (vb (Y7 (Pw t p))) []:=by
 refine YG c8 (by simp) (by decide) rfl ?_;simp-dsimp[a9f,Pd.Z5,YK];refine ZN (c2z t) (by simp[YK]) (by simp[YK]) ?_;simp-dsimp;refine⟨fun h1=>?_,fun h1 h=>h1 h.1⟩;refine ZN (b1I h) (by simp[Pd.Z5]) (by simp[Pd.Z5]) ?_;simp-dsimp;refine⟨fun h2=>?_,fun h2 h=>by have:=h.2.1;omega⟩
 refine ZN (c6z t h) (by simp[Pd.Z5,YK]) (by simp[Pd.Z5,YK]) ?_;simp-dsimp[Tf,Pw,h1,h2]
theorem c8z{h:Hs}(ht:h.WD)(table:Int)(k:Vl):ZX prog true NT [h.av,vi table,k.av] [] (vb (Y7 (Se h table k))) []:=by
 refine YG c7 (by simp) (by decide) rfl ?_;simp-dsimp[c6J,Hs.av];refine⟨fun h1=>⟨fun h2=>?_,fun h2=>?_⟩,fun h1 h=>absurd h.1 (by omega)⟩
 ·rintro⟨_,t,h3,_⟩;have:=(a5y.1 h3).1;omega
 ·obtain⟨n,rfl⟩:=c3y h1;obtain⟨t,WG⟩:∃t,h.tables[n]? =some t:=Zr (by omega);have hT:=ht t (a6y WG);obtain⟨c,hc⟩:∃c,t[0]? =some c:=Zr hT.1
  have hK:Se h n k↔k.right=true/\k.text=c:=by
   unfold Se;constructor
   ·rintro⟨_,t',h3,h4,h5⟩;rw[show((n:Int)).toNat=n from rfl,WG]at h3;cases h3;rw[hc]at h5;cases h5;exact⟨h4,rfl⟩
   ·rintro⟨h4,h5⟩;exact⟨h1,t,by simpa using WG,h4,by rw[hc,h5]⟩
  refine ZN (c1z k) (by simp) (by simp) ?_;simp-dsimp[WG,hc,V4,Tf,hK]
  grind
theorem c9z{h:Hs}(ZY:h.Ok)(a:Nat)(table:Int)(k:Vl)(v:Vs):ZX prog true KY [h.av,vi a,vi table,k.av,v.av] [] (vb (Y7 (M5 (h.events.take a) table k v))) []:=by
 refine YG c6 (by simp) (by decide) rfl ?_;simp-dsimp[c7J,Hs.av];refine ZN (mn ZY a v.txn table k) (by simp[Hs.av]) (by simp[Hs.av]) ?_;simp-dsimp[Tf,M5]
 grind
theorem c0A{h:Hs}(ZY:h.Ok){a:Nat}{e:Ev}(ha:h.events[a]? =some e):ZX prog true Gq [h.av,vi a] [] (vb (Y7 (Fo (h.events.take a) e))) []:=by
 refine YG c5 (by simp) (by decide) rfl ?_;have hlen:=(a5y.1 ha).1;have XM:=ZY.events;simp-dsimp[c2J,Hs.av,ha];refine⟨fun h1=>⟨fun h2=>⟨fun h3 g=>absurd g.2.2.1 (by omega),fun h3=>?_⟩,fun h2 g=>absurd g.2.1 (by omega)⟩,fun h1 g=>absurd g.1 (by omega)⟩
 refine YJ [] [8] a (fun i=>⟨[(7,vi i),(6,vb (Y7 (MW (h.events.take i) e.txn))),(1,vi a),(5, .ptr 5 0),(2, .ptr 2 0)],
  [(5, .box (e.cells.map .iv)),(2, .box [.iv (.Z6 1 (Za h.tables)), .iv (.Z6 22 (ZB h.events)), .iv (.Z6 5 (Zi h.order))])]⟩)
  (fun i=>On (h.events.take i) e.txn) ?_ ?_ ?_
 ·simp-dsimp
 ·simp
 ·intro i hi hq
  by_cases Z2:i<a
  ·obtain⟨x,hx⟩:∃x,h.events[i]? =some x:=Zr (by omega);have hw:=Zk (n:=(i:Int)+1) (by omega);simp-dsimp[OZ,Z2,hx,Qp hx,d6Q,d7Q,d9P];rw[hw]
   have hN:x.txn=e.txn->(x.kind=5\/x.kind=6)->¬Fo (h.events.take a) e:=fun g1 g2 g=>by
    have:=g.2.2.2.1 x (a6y (by rw[a8R,if_pos Z2];exact hx)) g1;omega
   grind
  ·have hia:i=a:=by omega
   subst hia;simp-dsimp[OZ,d9P,d0Q];unfold Fo
   grind
theorem c1A{h:Hs}(ZY:h.Ok)(ht:h.WD){a:Nat}{e:Ev}(ha:h.events[a]? =some e):ZX prog true Gn [h.av,vi a] [] (vb (Y7 (HV h (h.events.take a) e))) []:=by
 refine YG cZ (by simp) (by decide) rfl ?_;have hlen:=(a5y.1 ha).1;have XM:=ZY.events;simp-dsimp[c4J,Hs.av,ha];refine ZN (c8z ht e.table e.key) (by simp[Hs.av]) (by simp[Hs.av]) ?_;simp-dsimp;refine⟨fun h1=>?_,fun h1 g=>h1 g.1⟩
 have hw:=Zk (n:=(Yk (h.events.take a) e.txn e.table e.key:Int)+1) (by have:=d8P (h.events.take a) e.txn e.table e.key;rw[a3U]at this;omega)
 obtain⟨h0,t,Od,hr,hc⟩:=id h1;constructor
 all_goals
  refine ZN (mn ZY a e.txn e.table e.key) (by simp[Hs.av]) (by simp[Hs.av]) ?_;simp-dsimp[hw];refine⟨fun g1 g=>g1 g.2.1,fun g1=>⟨h0,?_⟩⟩;simp-dsimp[Od];refine ZN (c3z t e.row) (by simp[YK,oM,Yp]) (by simp[YK]) ?_
  have IH:HV h (h.events.take a) e↔e.row=[]\/(Fits t e.row/\e.row[0]? =some e.key):=by
   unfold HV;constructor
   ·rintro⟨_,_,g|⟨t',g2,g3,g4⟩⟩
    ·exact .inl g
    ·rw[Od]at g2;cases g2;exact .inr ⟨g3,g4⟩
   ·rintro(g|⟨g3,g4⟩)
    ·exact⟨h1,g1, .inl g⟩
    ·exact⟨h1,g1, .inr ⟨t,Od,g3,g4⟩⟩
  by_cases Y8:e.row=[]
  ·simp-dsimp[IH,Y8]
  ·obtain⟨v,hv⟩:∃v,e.row[0]? =some v:=Zr (a6I.2 Y8);simp-dsimp[Y8];refine⟨fun g3=>?_,fun g3 g=>?_⟩
   ·simp-dsimp[hv,IH,Y8,g3,Tf,Vl.eq_iff]
    try grind
   ·exact g3 ((IH.1 g).resolve_left Y8).1
theorem c2A{h:Hs}(ZY:h.Ok)(ht:h.WD){a:Nat}{e:Ev}(ha:h.events[a]? =some e):ZX prog true Gp [h.av,vi a] [] (vb (Y7 (Kw h (h.events.take a) e))) []:=by
 refine YG cY (by simp) (by decide) rfl ?_;have hlen:=(a5y.1 ha).1;have XM:=ZY.events;simp-dsimp[c3J,Hs.av,ha];refine ZN (c8z ht e.table e.key) (by simp[Hs.av]) (by simp[Hs.av]) ?_;simp-dsimp;refine⟨fun h1 g=>h1 g.1,fun h1=>?_⟩;refine ZN (mn ZY a e.txn e.table e.key) (by simp[Hs.av]) (by simp[Hs.av]) ?_;simp-dsimp
 have hRO:Kw h (h.events.take a) e↔if 0<Yk (h.events.take a) e.txn e.table e.key then e.Z4.txn=e.txn/\e.Z4.n=Yk (h.events.take a) e.txn e.table e.key
  else(e.Z4.txn=0/\e.Z4.n=0)\/M5 (h.events.take a) e.table e.key e.Z4:=by
  unfold Kw
  split<;>simp[h1,Vs.eq_iff]
 refine⟨fun h2=>?_,fun h2=>?_⟩
 ·rw[Tf,hRO,if_pos h2];simp
 ·rw[if_neg (by omega)]at hRO;constructor
  ·intro h3;refine ZN (c9z ZY a e.table e.key e.Z4) (by simp[Hs.av]) (by simp[Hs.av]) ?_;simp-dsimp[d9P,hRO]
   grind
  ·simp[hRO]
   try grind
theorem c3A{h:Hs}(ZY:h.Ok)(ht:h.WD){a:Nat}{e:Ev}(ha:h.events[a]? =some e):ZX prog true Gm [h.av,vi a] [] (vb (Y7 (d7t h (h.events.take a) e))) []:=by
 refine YG cX (by simp) (by decide) rfl ?_;have hlen:=(a5y.1 ha).1;have XM:=ZY.events;have XJ:=ZY.ev e (a6y ha);simp-dsimp[c5J,Hs.av,ha];refine⟨fun h0=>⟨fun h1=>⟨h0,?_⟩,fun h1=>?_⟩,fun h0 g=>absurd g.1.1 (by omega)⟩
 ·obtain⟨t,Od⟩:∃t,h.tables[e.table.toNat]? =some t:=Zr (by omega);simp-dsimp[Od];refine ZN (c7z t XJ.pred) (by simp[YK,Pd.av]) (by simp[YK,Pd.av]) ?_;simp-dsimp;refine⟨fun h2 g=>?_,fun h2=>?_⟩
  ·obtain⟨⟨_,t',g1,g2⟩,_⟩:=g;rw[Od]at g1;cases g1;exact h2 g2
  ·refine YJ [] [7] e.refs.length (fun i=>⟨[(6,vi i),(1,vi a),(2, .ptr 2 0),(5, .ptr 5 0)],
    [(5, .box (e.cells.map .iv)),(2, .box [.iv (.Z6 1 (Za h.tables)), .iv (.Z6 22 (ZB h.events)), .iv (.Z6 5 (Zi h.order))])]⟩)
    (fun i=>ZK i (My h (h.events.take a) e)) ?_ ?_ ?_
   ·simp-dsimp
   ·simp
   ·intro i hi hq;simp-dsimp[JT];refine⟨fun Z2=>?_,fun X9=>?_⟩
    ·obtain⟨q,VE⟩:=Zr Z2;have hre:=XJ.refs;have hw:=Zk (n:=(i:Int)+1) (by omega);have Wp:=Zk (n:=(i:Int)-1) (by omega)
     have YQ:¬My h (h.events.take a) e i->¬d7t h (h.events.take a) e:=fun g1 g=>g1 (g.2.1 i Z2)
     have UH:My h (h.events.take a) e i↔Se h e.table q.key/\M5 (h.events.take a) e.table q.key q.Z4/\(∀p,0<i->e.refs[i-1]? =some p->p.key.cmp q.key<0):=by
      unfold My;rw[VE];exact⟨fun g=>g q rfl,fun g r hr=>by cases hr;exact g⟩
     simp-dsimp[VE,Rf.Z8 q];refine ZN (c8z ht e.table q.key) (by simp[Hs.av]) (by simp[Hs.av]) ?_;simp-dsimp;refine⟨fun k1=>?_,fun k1=>YQ fun g=>k1 (UH.1 g).1⟩;refine ZN (c9z ZY a e.table q.key q.Z4) (by simp[Hs.av]) (by simp[Hs.av]) ?_;simp-dsimp
     by_cases k2:M5 (h.events.take a) e.table q.key q.Z4
     ·by_cases Fq:0<i
      ·obtain⟨p,hp⟩:∃p,e.refs[i-1]? =some p:=Zr (by omega)
       have e1:((i:Int)-1).toNat=i-1:=by omega
       have e2:(0:Int)<=(i:Int)-1:=by omega
       simp-dsimp[k2,Fq,Wp,e1,e2,hp,Rf.Z8 p];refine⟨⟨by omega,ZN (b2u p.key q.key (XJ.f2Q p (a6y hp))) (by simp) (by simp) ?_⟩,fun g=>absurd g (by omega)⟩;simp-dsimp[hw];refine⟨fun k3=>YQ fun g=>absurd ((UH.1 g).2.2 p Fq hp) (by omega),fun k3=>⟨Z2,hq.succ (UH.2 ⟨k1,k2,fun p' _ Dy=>by rw[hp]at Dy;cases Dy;exact k3⟩)⟩⟩
      ·simp-dsimp[k2,Fq,hw]
       exact fun _=>⟨Z2,hq.succ (UH.2 ⟨k1,k2,fun p h=>absurd h Fq⟩)⟩
     ·simp-dsimp[k2]
      exact YQ fun g=>k2 (UH.1 g).2.1
    ·have Zq:ZK e.refs.length (My h (h.events.take a) e):=fun j hj=>hq j (by omega)
     refine YJ [] [10,11] a (fun i=>⟨[(9,vi i),(1,vi a),(2, .ptr 2 0),(5, .ptr 5 0)],
      [(5, .box (e.cells.map .iv)),(2, .box [.iv (.Z6 1 (Za h.tables)), .iv (.Z6 22 (ZB h.events)), .iv (.Z6 5 (Zi h.order))])]⟩)
      (fun i=>∀x,x∈h.events.take i->d6t (h.events.take a) e x) ?_ ?_ ?_
     ·simp-dsimp
     ·simp
     ·intro j hj hs;simp-dsimp[JS];refine⟨fun Xf=>?_,fun Pu=>?_⟩
      ·obtain⟨x,hx⟩:∃x,h.events[j]? =some x:=Zr (by omega);have Mw:=Zk (n:=(j:Int)+1) (by omega)
       have Zm:d6t (h.events.take a) e x->∀y,y∈h.events.take (j+1)->d6t (h.events.take a) e y:=fun g y hy=>by
        rw[Qp hx]at hy
        rcases a9E.1 hy with hy|hy
        ·exact hs y hy
        ·simp only[a1B]at hy;subst hy;exact g
       by_cases c1:x.kind=3
       ·by_cases c2:x.txn=e.txn
        ·by_cases c3:x.table=e.table
         ·simp-dsimp[hx,c1,c2,c3];refine⟨⟨?_,?_⟩,?_,?_,?_⟩
          all_goals
           refine ZN (mn ZY a e.txn e.table x.key) (by simp[Hs.av]) (by simp[Hs.av]) ?_;simp-dsimp
          all_goals
           refine YJ [] [] e.refs.length (fun k=>⟨[(13,vi k),(12,vb (Y7 (Hd (e.refs.take k) x.key ⟨e.txn,Yk (h.events.take a) e.txn e.table x.key⟩))),(9,vi j),(1,vi a),(2, .ptr 2 0),(5, .ptr 5 0),(10, .ptr 10 0),(11, .ptr 11 0)],
            [(11, .box [.iv (ci e.txn), .iv (ci (Yk (h.events.take a) e.txn e.table x.key))]),(10, .box (x.cells.map .iv)),(5, .box (e.cells.map .iv)),(2, .box [.iv (.Z6 1 (Za h.tables)), .iv (.Z6 22 (ZB h.events)), .iv (.Z6 5 (Zi h.order))])]⟩)
            (fun _=>True) ?_ trivial ?_
           ·simp-dsimp
           ·intro k hk _;simp-dsimp[JR];refine⟨fun Sr=>?_,fun Ip=>?_⟩
            ·obtain⟨q,nS⟩:=Zr Sr;have mZ:=XJ.refs;have MF:=Zk (n:=(k:Int)+1) (by omega);simp-dsimp[nS,Rf.Z8 q,Qp nS,d0u,Tf,MF]
             grind
            ·rw[a0z Ip];simp-dsimp[Mw];refine⟨fun g g2=>?_,fun g=>⟨Xf,Zm fun _ _ _=>?_⟩⟩
             ·exact g (by obtain⟨r,g3,g4,g5⟩:=g2.2.2 x (a6y (by rw[a8R,if_pos Xf];exact hx)) c1 c2 c3;exact⟨r,g3,g4,g5⟩)
             ·obtain⟨r,g3,g4,g5⟩:=g;exact⟨r,g3,g4,g5⟩
         ·simp-dsimp[hx,c1,c2,c3,Mw];exact⟨Xf,Zm fun _ _ g=>absurd g c3⟩
        ·simp-dsimp[hx,c1,c2,Mw];exact⟨Xf,Zm fun _ g=>absurd g c2⟩
       ·simp-dsimp[hx,c1,Mw];exact⟨Xf,Zm fun g=>absurd g c1⟩
      ·have hja:j=a:=by omega
       subst hja;exact⟨⟨h0,t,Od,h2⟩,Zq,hs⟩
 ·rintro⟨⟨_,t,g,_⟩,_⟩;have:=(a5y.1 g).1;omega
theorem c4A{h:Hs}(ZY:h.Ok)(ht:h.WD){a:Nat}{e:Ev}(ha:h.events[a]? =some e):ZX prog true GA [h.av,vi a] [] (vb (Y7 (M1 h (h.events.take a) e))) []:=by
 refine YG cW (by simp) (by decide) rfl ?_;simp-dsimp[c9I,Hs.av];refine ZN (c0A ZY ha) (by simp[Hs.av]) (by simp[Hs.av]) ?_;simp-dsimp
 by_cases h1:Fo (h.events.take a) e
 ·by_cases k2:e.kind=2
  ·simp-dsimp[ha,h1,k2];refine ZN (c2A ZY ht ha) (by simp[Hs.av]) (by simp[Hs.av]) ?_;simp-dsimp[M1,h1,k2]
  ·by_cases k3:e.kind=3
   ·simp-dsimp[ha,h1,k3];refine ZN (c1A ZY ht ha) (by simp[Hs.av]) (by simp[Hs.av]) ?_;simp-dsimp[M1,h1,k3]
   ·by_cases k4:e.kind=4
    ·simp-dsimp[ha,h1,k4];refine ZN (c3A ZY ht ha) (by simp[Hs.av]) (by simp[Hs.av]) ?_;simp-dsimp[M1,h1,k4]
    ·simp-dsimp[ha,h1,k2,k3,k4,M1]
 ·simp-dsimp[ha,h1,M1]
def nR(h:Hs)(e:Ev)(i:Nat):Prop:=ZK i fun j=>∀o,h.order[j]? =some o->¬(o.S2 e.table e.key/\e.txn∈o.ZU)
theorem c5A{h:Hs}(ZY:h.Ok){a:Nat}{e:Ev}(ha:h.events[a]? =some e):ZX prog true Gz [h.av,vi a] [] (vb (Y7 (C6 h e))) []:=by
 refine YG cV (by simp) (by decide) rfl ?_;simp-dsimp[c0J,Hs.av,ha];refine ZN (b0H ZY e.txn) (by simp[Hs.av]) (by simp[Hs.av]) ?_;simp-dsimp
 by_cases k3:e.kind=3
 ·by_cases k5:Xd h.events e.txn=5
  ·simp-dsimp[k3,k5]
   refine YJ [] [8] h.order.length (fun i=>⟨[(7,vi i),(2, .ptr 2 0),(5, .ptr 5 0)],
    [(5, .box (e.cells.map .iv)),(2, .box [.iv (.Z6 1 (Za h.tables)), .iv (.Z6 22 (ZB h.events)), .iv (.Z6 5 (Zi h.order))])]⟩)
    (fun i=>nR h e i) ?_ ?_ ?_
   ·simp-dsimp
   ·exact TP
   ·intro i hi hq;have Ny:=ZY.order;simp-dsimp[JQ];refine⟨fun Z2=>?_,fun X9=>?_⟩
    ·obtain⟨o,ho⟩:=Zr Z2;have hw:=Zk (n:=(i:Int)+1) (by omega)
     have YQ:¬(o.S2 e.table e.key/\e.txn∈o.ZU)->nR h e (i+1):=fun g=>ZK.succ hq fun o' XI=>by rw[ho]at XI;cases XI;exact g
     by_cases c:o.S2 e.table e.key
     ·obtain⟨c1,c2⟩:=id c;have g0J:=ZY.ZU o (a6y ho);simp-dsimp[ho,Ins.Z8 o,c1,c2]
      refine YJ [] [] o.ZU.length (fun k=>⟨[(9,vi k),(7,vi i),(2, .ptr 2 0),(5, .ptr 5 0),(8, .ptr 8 0)],
       [(8, .box [.iv (ci o.table), .iv (cb o.key.text), .iv (ci o.key.n), .iv (.v (.string o.key.s)), .iv (.Z6 1 (YW o.ZU))]),(5, .box (e.cells.map .iv)),(2, .box [.iv (.Z6 1 (Za h.tables)), .iv (.Z6 22 (ZB h.events)), .iv (.Z6 5 (Zi h.order))])]⟩)
       (fun k=>e.txn∉o.ZU.take k) ?_ ?_ ?_
      ·simp-dsimp[c1,c2]
      ·simp
      ·intro k hk hn;simp-dsimp[JP];refine⟨fun Sr=>?_,fun Ip=>?_⟩
       ·obtain⟨x,hx⟩:=Zr Sr;have MF:=Zk (n:=(k:Int)+1) (by omega);simp-dsimp[hx,MF,Qp hx];refine⟨fun g _ _=>⟨o,a6y ho,c,by rw[<-g];exact a6y hx⟩,fun g=>⟨Sr,hn,fun g2=>g g2.symm⟩⟩
       ·rw[a0z Ip]at hn;exact⟨Z2,hw,YQ fun g=>hn g.2⟩
     ·have c':¬(o.table=e.table/\o.key.text=e.key.text/\o.key.n=e.key.n/\o.key.s=e.key.s):=fun g=>c ⟨g.1,Vl.eq_iff.2 g.2⟩
      have hU:=YQ fun g=>c g.1
      simp-dsimp[ho,Ins.Z8 o,hw]
      have hC:∀{p:Prop},(o.table=e.table)->(o.key.text=e.key.text)->(o.key.n=e.key.n)->(o.key.s=e.key.s)->p:=fun a1 a2 a3 a4=>(c' ⟨a1,a2,a3,a4⟩).elim
      refine⟨fun g1=>⟨fun _=>⟨Z2,hU⟩,fun g2 g3 g4=>hC g1 g2 g3 g4⟩,fun _=>⟨Z2,hU⟩⟩
    ·intro g;obtain⟨o,g1,g2,g3⟩:=g k3 k5;obtain⟨j,hj⟩:=a9B g1;exact hq j (by have:=(a5y.1 hj).1;omega) o hj ⟨g2,g3⟩
  ·simp-dsimp[k3,k5,C6]
 ·simp-dsimp[k3,C6]
theorem c6A{h:Hs}(ZY:h.Ok){a:Nat}{o:Ins}(ha:h.order[a]? =some o):ZX prog true Gy [h.av,vi a] [] (vb (Y7 (Fl h a o))) []:=by
 refine YG cU (by simp) (by decide) rfl ?_;have hlen:=(a5y.1 ha).1;have Ny:=ZY.order;have g0J:=ZY.ZU o (a6y ha);simp-dsimp[c1J,Hs.av,ha,Ins.Z8 o]
 refine YJ [] [] a (fun i=>⟨[(6,vi i),(1,vi a),(2, .ptr 2 0),(5, .ptr 5 0)],
  [(5, .box [.iv (ci o.table), .iv (cb o.key.text), .iv (ci o.key.n), .iv (.v (.string o.key.s)), .iv (.Z6 1 (YW o.ZU))]),(2, .box [.iv (.Z6 1 (Za h.tables)), .iv (.Z6 22 (ZB h.events)), .iv (.Z6 5 (Zi h.order))])]⟩)
  (fun i=>∀x,x∈h.order.take i->¬x.S2 o.table o.key) ?_ ?_ ?_
 ·simp-dsimp
 ·simp
 ·intro i hi hq;simp-dsimp[EE];refine⟨fun Z2=>?_,fun X9=>?_⟩
  ·obtain⟨x,hx⟩:∃x,h.order[i]? =some x:=Zr (by omega);have hw:=Zk (n:=(i:Int)+1) (by omega);simp-dsimp[hx,Ins.Z8 x,hw]
   have YQ:x.S2 o.table o.key->¬Fl h a o:=fun g g2=>g2.1 x (a6y (by rw[a8R,if_pos Z2];exact hx)) g
   have f5R:¬x.S2 o.table o.key->∀y,y∈h.order.take (i+1)->¬y.S2 o.table o.key:=fun g y hy=>by
    rw[Qp hx]at hy
    rcases a9E.1 hy with hy|hy
    ·exact hq y hy
    ·simp only[a1B]at hy;subst hy;exact g
   refine⟨fun g1=>⟨fun g2 g3 g4=>YQ ⟨g1,Vl.eq_iff.2 ⟨g2,g3,g4⟩⟩,fun g2=>⟨Z2,f5R fun g=>?_⟩⟩,fun g1=>⟨Z2,f5R fun g=>g1 g.1⟩⟩;have g3:=Vl.eq_iff.1 g.2;exact g2 g3.1 g3.2.1 g3.2.2
  ·have hia:i=a:=by omega
   subst hia
   refine YJ [] [] o.ZU.length (fun k=>⟨[(7,vi k),(2, .ptr 2 0),(5, .ptr 5 0)],
    [(5, .box [.iv (ci o.table), .iv (cb o.key.text), .iv (ci o.key.n), .iv (.v (.string o.key.s)), .iv (.Z6 1 (YW o.ZU))]),(2, .box [.iv (.Z6 1 (Za h.tables)), .iv (.Z6 22 (ZB h.events)), .iv (.Z6 5 (Zi h.order))])]⟩)
    (fun k=>ZK k fun i=>∀t,o.ZU[i]? =some t->Xd h.events t=5/\Yk h.events t o.table o.key≠0/\t∉o.ZU.take i) ?_ ?_ ?_
   ·simp-dsimp
   ·exact TP
   ·intro k hk nS;simp-dsimp[JO];refine⟨fun Sr=>?_,fun Ip=>?_⟩
    ·obtain⟨t,nQ⟩:=Zr Sr;have MF:=Zk (n:=(k:Int)+1) (by omega)
     have YQ:¬(Xd h.events t=5/\Yk h.events t o.table o.key≠0/\t∉o.ZU.take k)->¬Fl h i o:=fun g g2=>g (g2.2.1 k Sr t nQ)
     have T7:h.events.take h.events.length=h.events:=a6J;simp-dsimp[nQ];refine ZN (b0H ZY t) (by simp[Hs.av]) (by simp[Hs.av]) ?_;simp-dsimp[nQ];refine⟨fun g1=>?_,fun g1=>YQ fun g=>g1 g.1⟩;refine ZN (mn ZY h.events.length t o.table o.key) (by simp[Hs.av]) (by simp[Hs.av]) ?_;simp-dsimp[nQ,T7];refine⟨fun g2=>YQ fun g=>g.2.1 g2,fun g2=>?_⟩
     refine YJ [] [] k (fun j=>⟨[(9,vi j),(7,vi k),(2, .ptr 2 0),(5, .ptr 5 0)],
      [(5, .box [.iv (ci o.table), .iv (cb o.key.text), .iv (ci o.key.n), .iv (.v (.string o.key.s)), .iv (.Z6 1 (YW o.ZU))]),(2, .box [.iv (.Z6 1 (Za h.tables)), .iv (.Z6 22 (ZB h.events)), .iv (.Z6 5 (Zi h.order))])]⟩)
      (fun j=>t∉o.ZU.take j) ?_ ?_ ?_
     ·simp-dsimp
     ·simp
     ·intro j hj hnj;simp-dsimp[JN];refine⟨fun Xf=>?_,fun Pu=>?_⟩
      ·obtain⟨u,hu⟩:∃u,o.ZU[j]? =some u:=Zr (by omega);have Mw:=Zk (n:=(j:Int)+1) (by omega);simp-dsimp[hu,nQ,Mw,Qp hu];refine⟨fun g=>YQ fun g3=>g3.2.2 ?_,fun g=>⟨Xf,hnj,fun g3=>g g3.symm⟩⟩;rw[<-g];exact a6y (by rw[a8R,if_pos Xf];exact hu)
      ·have hjk:j=k:=by omega
       subst hjk;simp-dsimp[MF];exact⟨Sr,nS.succ fun t' IT=>by rw[nQ]at IT;cases IT;exact⟨g1,g2,hnj⟩⟩
    ·have Zq:ZK o.ZU.length fun i=>∀t,o.ZU[i]? =some t->Xd h.events t=5/\Yk h.events t o.table o.key≠0/\t∉o.ZU.take i:=fun j hj=>nS j (by omega)
     rw[Tf,decide_eq_true_eq];exact⟨fun g=>⟨hq,Zq,g⟩,fun g=>g.2.2⟩
theorem c7A{h:Hs}(ZY:h.Ok):ZX prog true GB [h.av] [] (vb (Y7 (lp h))) []:=by
 refine YG cT (by simp) (by decide) rfl ?_
 by_cases hn:1<=h.tables.length/\h.tables.length<=3
 ·have n1:¬(h.tables.length:Int)<1:=by omega
  have n2:¬(3:Int)<h.tables.length:=by omega
  simp-dsimp[c8I,Hs.av,n1,n2]
  refine YJ [] [] h.tables.length (fun i=>⟨[(3,vi i),(1, .ptr 1 0)],[(1, .box [.iv (.Z6 1 (Za h.tables)), .iv (.Z6 22 (ZB h.events)), .iv (.Z6 5 (Zi h.order))])]⟩)
   (fun i=>ZK i fun j=>∀t,h.tables[j]? =some t->WB t) ?_ ?_ ?_
  ·simp-dsimp
  ·exact TP
  ·intro i hi hq;simp-dsimp[ED];refine⟨fun Z2=>?_,fun X9=>?_⟩
   ·obtain⟨t,ht⟩:=Zr Z2;have hw:=Zk (n:=(i:Int)+1) (by omega);simp-dsimp[ht];refine ZN (c2z t) (by simp[YK]) (by simp[YK]) ?_;simp-dsimp[hw];refine⟨fun g g2=>g (g2.2 t (a6y ht)),fun g=>⟨Z2,hq.succ fun t' IT=>by rw[ht]at IT;cases IT;exact g⟩⟩
   ·refine⟨hn,fun t ht=>?_⟩;obtain⟨j,hj⟩:=a9B ht;exact hq j (by have:=(a5y.1 hj).1;omega) t hj
 ·have:¬lp h:=fun g=>hn g.1
  by_cases n1:(h.tables.length:Int)<1
  ·simp-dsimp[c8I,Hs.av,n1,this]
  ·have n2:(3:Int)<h.tables.length:=by omega
   simp-dsimp[c8I,Hs.av,n1,n2,this]
theorem mN{h:Hs}(ZY:h.Ok):ZX prog true U4 [h.av] [] (vb (Y7 (Zo h))) []:=by
 refine YG cS (by simp) (by decide) rfl ?_;simp-dsimp[a1a,Hs.av];refine ZN (c7A ZY) (by simp[Hs.av]) (by simp[Hs.av]) ?_;simp-dsimp;refine⟨fun g1 g2=>g1 g2.1,fun hT=>?_⟩
 refine YJ [] [] h.events.length (fun i=>⟨[(4,vi i),(1, .ptr 1 0)],[(1, .box [.iv (.Z6 1 (Za h.tables)), .iv (.Z6 22 (ZB h.events)), .iv (.Z6 5 (Zi h.order))])]⟩)
  (fun i=>ZK i fun i=>∀e,h.events[i]? =some e->M1 h (h.events.take i) e/\C6 h e) ?_ ?_ ?_
 ·simp-dsimp
 ·exact TP
 ·intro i hi hq;have XM:=ZY.events;simp-dsimp[JM];refine⟨fun Z2=>?_,fun X9=>?_⟩
  ·obtain⟨e,he⟩:=Zr Z2;have hw:=Zk (n:=(i:Int)+1) (by omega);refine ZN (c4A ZY hT.2 he) (by simp[Hs.av]) (by simp[Hs.av]) ?_;simp-dsimp;refine ZN (c5A ZY he) (by simp[Hs.av]) (by simp[Hs.av]) ?_;simp-dsimp[hw]
   refine⟨fun g1=>⟨fun g2 g3=>g2 (g3.2.1 i Z2 e he).2,fun g2=>⟨Z2,hq.succ fun e' XF=>by rw[he]at XF;cases XF;exact⟨g1,g2⟩⟩⟩,fun g1 g3=>g1 (g3.2.1 i Z2 e he).1⟩
  ·refine YJ [] [] h.order.length (fun i=>⟨[(7,vi i),(1, .ptr 1 0)],[(1, .box [.iv (.Z6 1 (Za h.tables)), .iv (.Z6 22 (ZB h.events)), .iv (.Z6 5 (Zi h.order))])]⟩)
    (fun i=>ZK i fun i=>∀o,h.order[i]? =some o->Fl h i o) ?_ ?_ ?_
   ·simp-dsimp
   ·exact TP
   ·intro j hj Iu;have Ny:=ZY.order;simp-dsimp[JL];refine⟨fun Xf=>?_,fun Pu=>?_⟩
    ·obtain⟨o,ho⟩:=Zr Xf;have Mw:=Zk (n:=(j:Int)+1) (by omega);refine ZN (c6A ZY ho) (by simp[Hs.av]) (by simp[Hs.av]) ?_;simp-dsimp[Mw];exact⟨fun g1 g2=>g1 (g2.2.2 j Xf o ho),fun g=>⟨Xf,Iu.succ fun o' XI=>by rw[ho]at XI;cases XI;exact g⟩⟩
    ·exact⟨hT,fun k hk=>hq k (by omega),fun k hk=>Iu k (by omega)⟩
theorem d0V{o:Ins}{j:Nat}{a b:Int}(ha:o.ZU[j]? =some a)(hb:o.ZU[j+1]? =some b):(Sf o)[j]? =some ⟨a,b,1,o.table,o.key,false⟩:=by
 unfold Sf;rw[a1C,(List.getElem?_zip_eq_some (z:=(a,b))).2 ⟨ha,by rw[c1E];exact hb⟩];rfl
theorem d1V(o:Ins):(Sf o).length=o.ZU.length-1:=by
 unfold Sf;rw[a5O,List.length_zip,c4I];omega
def OA(h:Hs)(i:Nat):List Eg:=((h.order.take i).flatMap Sf).foldl YL []
theorem d2V{h:Hs}{i:Nat}{o:Ins}(ho:h.order[i]? =some o):OA h (i+1)=(Sf o).foldl YL (OA h i):=by
 unfold OA;rw[show h.order.take (i+1)=h.order.take i++[o] by rw[a3I,ho];rfl,c7B,a5U];simp
def CV(l:List Eg)(o:Ins)(j:Nat):List Eg:=((Sf o).take j).foldl YL l
theorem d3V{l:List Eg}{o:Ins}{j:Nat}{e:Eg}(he:(Sf o)[j]? =some e):CV l o (j+1)=YL (CV l o j) e:=by
 unfold CV;rw[a3I,he,Option.toList_some,a5U];rfl
def qL(h:Hs)(q:Nat):List Eg:=((h.events.take q).flatMap (SC h)).foldl YL (OA h h.order.length)
theorem d4V{h:Hs}{q:Nat}{e:Ev}(he:h.events[q]? =some e):qL h (q+1)=(SC h e).foldl YL (qL h q):=by
 unfold qL;rw[show h.events.take (q+1)=h.events.take q++[e] by rw[a3I,he];rfl,c7B,a5U];simp
theorem d5V{h:Hs}(hw:Zo h):qL h h.events.length=XS h:=by
 unfold qL OA XS ML;rw[if_pos hw,a6J,a6J,a5U]
theorem d6V{h:Hs}(ZY:h.Ok){o:Ins}(ho:o∈h.order){x:Eg}(hx:x∈Sf o):x.key.s.size<2^63:=by
 obtain⟨_,_,_,_,_,rfl⟩:=a8N.1 hx;exact ZY.Cd o ho
theorem d7V{h:Hs}(ZY:h.Ok){e:Ev}(he:e∈h.events){x:Eg}(hx:x∈SC h e):x.key.s.size<2^63:=by
 unfold SC at hx;split at hx
 ·split at hx
  ·unfold LB IL MN at hx;have hk:=(ZY.ev e he).key;rw[a9E]at hx
   rcases hx with hx|hx
   ·split at hx
    ·rw[a1B]at hx;subst hx;exact hk
    ·cases hx
   ·split at hx
    ·rw[a1B]at hx;subst hx;exact hk
    ·cases hx
  ·split at hx
   ·unfold HW at hx;rw[a2O]at hx;obtain⟨o,ho,hx⟩:=hx;exact c0V ZY ho hx
   ·cases hx
 ·cases hx
theorem d8V{h:Hs}(hw:Zo h)(hm:h.T3)(e:Ev):(SC h e).length<=20000:=by
 unfold SC;split
 ·split
  ·unfold LB IL MN;rw[a7J]
   split<;>split<;>simp
  ·split
   ·unfold HW
    have:=Ho (f:=QD h e) (B:=200) (l:=h.order) fun o _=>c2V hw hm e o
    have:=a0G 200 hm.2;omega
   ·simp
 ·simp
theorem d9V{h:Hs}(ZY:h.Ok)(hw:Zo h)(hm:h.T3)(i:Nat):Hy (OA h i)/\(OA h i).length<=10000:=by
 have h1:=Ho (f:=Sf) (B:=100) (l:=h.order.take i) fun o ho=>by
  rw[d1V];have:=c3W hw (a6U ho);have:=hm.1;omega
 have h2:(h.order.take i).length<=100:=by rw[a3U];have:=hm.2;omega
 have h3:=a0G 100 h2;have h4:=kF (es:=(h.order.take i).flatMap Sf) (l:=[]);rw[c2i]at h4;refine⟨⟨?_,c6U (fun x hx=>by cases hx) fun x hx=>?_⟩,?_⟩
 ·show(((h.order.take i).flatMap Sf).foldl YL []).length<2^40;omega
 ·rw[a2O]at hx;obtain⟨o,ho,hx⟩:=hx;exact d6V ZY (a6U ho) hx
 ·show(((h.order.take i).flatMap Sf).foldl YL []).length<=10000;omega
theorem d0W{h:Hs}(ZY:h.Ok)(hw:Zo h)(hm:h.T3)(q:Nat):Hy (qL h q)/\(qL h q).length<=10000000:=by
 have h1:=Ho (f:=SC h) (B:=20000) (l:=h.events.take q) fun e _=>d8V hw hm e
 have h2:(h.events.take q).length<=100:=by rw[a3U];have:=hm.1;omega
 have h3:=a0G 20000 h2;obtain⟨h5,h6⟩:=d9V ZY hw hm h.order.length;have h4:=kF (es:=(h.events.take q).flatMap (SC h)) (l:=OA h h.order.length);refine⟨⟨?_,c6U h5.2 fun x hx=>?_⟩,?_⟩
 ·show(((h.events.take q).flatMap (SC h)).foldl YL (OA h h.order.length)).length<2^40;omega
 ·rw[a2O]at hx;obtain⟨e,he,hx⟩:=hx;exact d7V ZY (a6U he) hx
 ·show(((h.events.take q).flatMap (SC h)).foldl YL (OA h h.order.length)).length<=10000000;omega
theorem d1W{h:Hs}(ZY:h.Ok)(hm:h.T3):ZX prog false Wc [h.av] [] (.iv (ZW (XS h))) []:=by
 have hW:=mN ZY
 have XM:h.events.length<2^40:=by have:=hm.1;omega
 refine Te f7j (by simp[Hs.av]) (by decide) ?_;simp-dsimp[a1j,Hs.av];refine ZN hW (by simp[Hs.av]) (by simp[Hs.av]) ?_
 by_cases hw:Zo h
 ·have M8:Y7 (Zo h)=true:=UQ.2 hw;simp-dsimp[M8];refine YJ [2,4] [6] h.order.length (fun i=>⟨[(5,vi i),(4, .iv (ZW (OA h i))),(1, .ptr 1 0)],[(1, .box [.iv (.Z6 1 (Za h.tables)), .iv (.Z6 22 (ZB h.events)), .iv (.Z6 5 (Zi h.order))])]⟩) (fun _=>True) ?_ trivial ?_
  ·simp-dsimp[OA,ZW,ZM]
  ·intro i hi _
   rcases b5j i h.order.length with Z2|X9
   ·obtain⟨o,ho⟩:=Zr Z2;have hom:=a6y ho;have hd:decide (i<h.order.length)=true:=decide_eq_true Z2;have Nw:=Zk (n:=(i:Int)+1) (by have:=hm.2;omega);have QQ:=c3W hw hom;have Zm:=d2V ho
    have Zq:CV (OA h i) o (o.ZU.length-1)=OA h (i+1):=by
     rw[Zm];unfold CV;rw[<-d1V,a6J]
    have PF:∀j,Hy (CV (OA h i) o j):=fun j=>c7U (d9V ZY hw hm i).1 (fun x hx=>d6V ZY hom (a6U hx)) (by
     have h1:=(d9V ZY hw hm i).2;have h2:((Sf o).take j).length<=(Sf o).length:=(List.take_sublist j (Sf o)).length_le;rw[d1V]at h2;have:=hm.1
     omega)
    simp-dsimp[OG,ho,hd,Ins.Z8 o]
    refine YJ [] [] (o.ZU.length-1) (fun j=>⟨[(7,vi (j+1:Nat)),(6, .ptr 6 0),(5,vi i),(4, .iv (ZW (CV (OA h i) o j))),(1, .ptr 1 0)],
     [(6, .box (o.cells.map .iv)),(1, .box [.iv (.Z6 1 (Za h.tables)), .iv (.Z6 22 (ZB h.events)), .iv (.Z6 5 (Zi h.order))])]⟩) (fun _=>True) ?_ trivial ?_
    ·simp-dsimp[Ins.Z8 o,CV]
    ·intro j hj _
     rcases b5j (j+1) o.ZU.length with Xf|Pu
     ·obtain⟨b,hb⟩:=Zr Xf;obtain⟨a,ha⟩:∃a,o.ZU[j]? =some a:=Zr (by omega);have Sx:decide ((j:Int)+1<o.ZU.length)=true:=decide_eq_true (by omega);have w1:IntKind.i64.wrap ((j:Int)+1+1)=(j:Int)+1+1:=Zk (by have:=hm.1;omega);have w2:IntKind.i64.wrap (j:Int)=j:=Zk (by have:=hm.1;omega)
      have WG:((j:Int)+1).toNat=j+1:=by omega
      have df:(0:Int)<=(j:Int)+1:=by omega
      have WS:=d3V (l:=OA h i) (d0V ha hb);have Qv:=c1t (PF j) ⟨a,b,1,o.table,o.key,false⟩;rw[<-WS]at Qv;simp-dsimp[OH,Ins.Z8 o,Sx,w2,WG,df,ha,hb,YB];refine Y6 Qv rfl (by simp[Eg.av,Eg.cells]) (by simp[Eg.av,Eg.cells]) (by simp) (by simp) ?_;simp-dsimp[w1];omega
     ·have Sx:decide ((j:Int)+1<o.ZU.length)=false:=decide_eq_false (by omega)
      have nW:CV (OA h i) o j=OA h (i+1):=by
       rw[<-Zq];unfold CV;rw[a0z (by rw[d1V];omega),a0z (by rw[d1V];omega)]
      rw[nW];simp-dsimp[OH,Ins.Z8 o,Sx,Nw];exact Z2
   ·obtain rfl:i=h.order.length:=by omega
    simp-dsimp[OG];refine YJ [] [9] h.events.length (fun q=>⟨[(8,vi q),(4, .iv (ZW (qL h q))),(1, .ptr 1 0)],[(1, .box [.iv (.Z6 1 (Za h.tables)), .iv (.Z6 22 (ZB h.events)), .iv (.Z6 5 (Zi h.order))])]⟩) (fun _=>True) ?_ trivial ?_
    ·simp-dsimp[qL]
    ·intro q hq _
     rcases b5j q h.events.length with Q7|g3J
     ·obtain⟨e,he⟩:=Zr Q7;have hem:=a6y he;have hqd:decide (q<h.events.length)=true:=decide_eq_true Q7;have Ij:=Zk (n:=(q:Int)+1) (by omega);have Zm:=d4V he;obtain⟨f5Z,h3e⟩:=d0W ZY hw hm q;simp-dsimp[OE,he,hqd,Ev.Z8 e];refine ZN (b0H ZY e.txn) (by simp[Hs.av]) (by simp[Hs.av]) ?_;unfold SC at Zm
      by_cases h5:Xd h.events e.txn=5
      ·rw[if_pos h5]at Zm
       by_cases k2:e.kind=2
       ·rw[if_pos k2]at Zm;have hrd:=d0z ZY hw XM (ZY.ev e hem) f5Z (by omega);rw[<-Zm]at hrd;simp-dsimp[h5,k2];refine Y6 hrd rfl (by simp[Hs.av,Ev.Z5,k2]) (by simp[Hs.av,Ev.Z5]) (by simp) (by simp) ?_;simp-dsimp[k2,h5,Ij];exact Q7
       ·rw[if_neg k2]at Zm
        by_cases k4:e.kind=4
        ·rw[if_pos k4]at Zm;have nZ:=c7V ZY hw hm (ZY.ev e hem) f5Z (by omega);rw[<-Zm]at nZ;simp-dsimp[h5,k4];refine Y6 nZ rfl (by simp[Hs.av,Ev.Z5,k4]) (by simp[Hs.av,Ev.Z5]) (by simp) (by simp) ?_;simp-dsimp[Ij];exact Q7
        ·rw[if_neg k4,b4Z]at Zm;simp-dsimp[h5,k2,k4,Ij,Zm];exact Q7
      ·rw[if_neg h5,b4Z]at Zm;simp-dsimp[h5,Ij,Zm];exact Q7
     ·obtain rfl:q=h.events.length:=by omega
      rw[d5V hw];simp-dsimp[OE];exact⟨[1],by simp-dsimp[Yz]⟩
 ·have G5:Y7 (Zo h)=false:=U6.2 hw;rw[Dw hw];simp-dsimp[G5];exact⟨[1,2],by simp-dsimp[Yz,ZW,ZM]⟩
theorem d7D(a b:List Eg)(hl:a.length<2^62):ZX prog true X6 [.iv (ZW a), .iv (ZW b)] [] (vb (decide (a=b))) []:=by
 refine YG f6h (by simp) (by decide) rfl ?_
 by_cases hlen:a.length=b.length
 ·have TG:(a.length:Int)=b.length:=by omega
  simp-dsimp[a9i,ZW,TG];refine YJ [] [] b.length (fun i=>⟨[(5,vi i),(0, .iv (.Z6 8 (ZM a))),(1, .iv (.Z6 8 (ZM b)))],[]⟩) (fun i=>a.take i=b.take i) ?_ ?_ ?_
  ·simp-dsimp
  ·simp
  ·intro i hi hq;simp-dsimp[Ea,TG];refine⟨fun Z2=>?_,fun X9=>?_⟩
   ·obtain⟨x,hx⟩:∃x,a[i]? =some x:=Zr (by omega);obtain⟨y,hy⟩:=Zr Z2;have hw:=Zk (n:=(i:Int)+1) (by omega)
    have WG:∀{l:List Eg} {z:Eg},l[i]? =some z->l.take (i+1)=l.take i++[z]:=fun h=>by rw[a3I,h];rfl
    simp-dsimp[hx,hy,hw,Eg.cells,YB];refine⟨fun g=>?_,fun g1 g2 g3 g4 g5 g6 g7 g8=>⟨Z2,?_⟩⟩
    ·rintro rfl;rw[hx]at hy;cases hy;simp at g
    ·rw[WG hx,WG hy,hq,Eg.eq_iff.2 ⟨g1,g2,g3,g4,Vl.eq_iff.2 ⟨g5,g6,g7⟩,g8⟩]
   ·rw[a0z (by omega),a0z X9]at hq;simpa using hq
 ·have ZV:¬a=b:=fun g=>hlen (by rw[g])
  have TG:¬(a.length:Int)=b.length:=by omega
  simp-dsimp[a9i,ZW,TG,ZV]
@[simp]theorem d8D(l:List Eg):(ZM l).take l.length=ZM l:=a0z (by simp)
theorem d9D{h:Hs}{e:Ev}(h1:e.row.length<=1)(h2:e.refs=[])(h3:e.pred=Ic)(h4:e.key.s=⟨#[]⟩):e.Ok:=
 ⟨by omega,by rw[h2];decide,by rw[h3];exact d1v,by rw[h4];decide,fun r hr=>by rw[h2]at hr;cases hr⟩
theorem d4g{h:Hs}(hs:YM h):h.T3:=⟨by have:=hs.events;omega,by have:=hs.order;omega⟩
abbrev H6:Sk:=(false,[.i .i64],false)
def gF(f:Fm):List Value->Option (List IV)
 | [.int .i64 k]=>(Xz f k).map fun i=>[ci i]
 | _=>none
theorem a6B{f:Fm}{k:Int}(h:Xz f k=none)(i:Int):ZH (gF f) [.int .i64 k] (some [ci i])=gF (f++[(k,i)]):=by
 funext q
 simp only[ZH];split
 ·rename_i e;subst e;simp only[gF,b6o,h];simp
 ·rename_i ZV;unfold gF;split
  ·rename_i q';rw[b6o,if_neg (by rintro rfl;exact ZV rfl)];simp
  ·rfl
theorem a7B:(fun _=>none:List Value->Option (List IV))=gF []:=by
 funext q;unfold gF;split<;>rfl
def ZP(l:List Eg)(ok:Eg->Bool):Gr where
 m:=l.length
 F:=fun k=>(l[k]?.map Eg.Z4).getD 0
 T:=fun k=>(l[k]?.map Eg.to).getD 0
 ok:=fun k=>(l[k]?.map ok).getD false
section
variable{l:List Eg}{ok:Eg->Bool}{k:Nat}{e:Eg}
theorem RK(h:l[k]? =some e):(ZP l ok).F k=e.Z4:=by simp[ZP,h]
theorem SE(h:l[k]? =some e):(ZP l ok).T k=e.to:=by simp[ZP,h]
theorem a8B(h:l[k]? =some e):(ZP l ok).ok k=ok e:=by simp[ZP,h]
end
def pick(l:List Eg)(p:List Nat):List Eg:=p.filterMap fun k=>l[k]?
theorem mQ{l:List Eg}{k:Nat}{e:Eg}(h:l[k]? =some e)(p:List Nat):pick l (k::p)=e::pick l p:=by simp[pick,h]
theorem a0C{l:List Eg}{k:Nat}{e:Eg}(h:l[k]? =some e)(p:List Nat):pick l (p++[k])=pick l p++[e]:=by simp[pick,h]
theorem H5(l:List Eg):pick l []=[]:=rfl
theorem a2C(l:List Eg)(p:List Nat):pick l p.reverse=(pick l p).reverse:=by simp[pick,List.filterMap_reverse]
theorem Ha{l:List Eg}:∀{p:List Nat},(∀k,k∈p->k<l.length)->(pick l p).length=p.length
 | [],_=>rfl
 |k::p,h=>by
  obtain⟨e,he⟩:=Zr (h k a4E);rw[mQ he,a4S,a4S,Ha fun x hx=>h x (a9C _ hx)]
theorem a4C{l:List Eg}:∀{p:List Nat} (_:∀k,k∈p->k<l.length) (i:Nat),(pick l p)[i]? =(p[i]?).bind fun k=>l[k]?
 | [],_,i=>by simp[pick]
 |k::p,h,i=>by
  obtain⟨e,he⟩:=Zr (h k a4E);rw[mQ he]
  cases i with
  |zero=>simp[he]
  |succ i=>simp only[List.getElem?_cons_succ];exact a4C (fun x hx=>h x (a9C _ hx)) i
theorem a5C{l:List Eg}{ok:Eg->Bool}:∀{p:List Nat},(∀k,k∈p->k<l.length)->(pick l p).map Eg.to=p.map (ZP l ok).T
 | [],_=>rfl
 |k::p,h=>by
  obtain⟨e,he⟩:=Zr (h k a4E);rw[mQ he,a0I,a0I,a5C (ok:=ok) fun x hx=>h x (a9C _ hx),SE he]
theorem d2x{f:Fm}{k i:Int}(h:Xz f k=some i):(k,i)∈f:=by
 unfold Xz at h;obtain⟨p,h1,h2⟩:=a9R.1 h;have h3:=List.find?_some h1;have h4:=List.mem_of_find?_eq_some h1;simp only[decide_eq_true_eq]at h3;obtain⟨a,b⟩:=p;simp only at h2 h3;subst h2 h3;exact h4
theorem kE{sz:Nat}{xs ys:List (List IV)}(h:xs.length<=ys.length):(Ob.list sz xs).le (Ob.list sz ys):=Ob.RM rfl rfl h
theorem d4x(xs:List Eg)(hl:xs.length<2^40):ZX prog false KX [.sl 20 8 0 xs.length] [(20, .list 8 (ZM xs))] (.Zp []) [(20, .list 8 (ZM xs.reverse))]:=
 (c2Z xs hl).Zl (Ren.Xe [(1000,20)]) rfl
abbrev kL(ks:List Int):AV:= .fn Rz [] [.val (.pt [YI ks])]
theorem d5x{l:List Eg}(ks:List Int)(x:Int)(W0:0<l.length):ZX prog false TT [.iv (ZW l),vi x,vi x,kL ks] [] (.Zp [.iv (ZW []),vb true]) []:=by
 refine FA (by decide) D2 (by simp) (by decide) ?_
 have f1v:ZH (fun _=>none) [Value.int .i64 x] (some [ci (-1)])=gF [(x, -1)]:=by
  rw[a7B];exact a6B (f:=[]) rfl (-1)
 have Xj:gF [(x, -1)] [.int .i64 x]=some [ci (-1)]:=by simp[gF,Xz]
 simp-dsimp[QX,f1v];refine HZ (fun k s=>k=0/\s=⟨[(11, .iv (.Z6 1 [[ci x]])),(10, .mpr 22),(12,vb true),(0, .iv (ZW l)),(2,vi x)],[(22, .map H6 (gF [(x, -1)]))]⟩) ⟨_,_,LeTo.le (D:=[26,8]) ?_,rfl,rfl⟩ ?_
 ·simp[ZW]
 ·rintro k s ⟨rfl,rfl⟩;simp-dsimp[RN];refine HZ (fun k s=>k=0/\s=⟨[(20, .sl 20 8 0 0),(12,vb true),(10, .mpr 22),(21,vi x),(0, .iv (ZW l))],[(20, .list 8 (ZM [])),(22, .map H6 (gF [(x, -1)]))]⟩) ⟨_,_,LeTo.le (D:=[]) ?_,rfl,rfl⟩ ?_
  ·simp[ZM,ZW]
  ·rintro k s ⟨rfl,rfl⟩;simp-dsimp[UL,Xj];refine T6 (d4x [] (by simp)) rfl (by simp) (by simp) (by simp) (by simp) (by simp) (by simp[kE]) (by simp) ?_;simp-dsimp;exact⟨[20],by simp[PZ,AV.Xt,ZW,ZM]⟩
def bkP(G:Gr)(s:Nat)(dst:Int)(k:Nat)(circle:List Int)(f:Fm)(res:Bool×Fm):Prop:=
 Qx G dst k circle f=some res/\Kx G s f/\circle.length<=2^30
def LN(G:Gr)(n:Int)(q:Nat)(st:Fm×List Int):Fm×List Int:=Nu G n ((a7I G.m).take q) st
def nA(G:Gr)(dst n:Int)(q:Nat)(st:Fm×List Int):Bool×Fm×List Int:=MA G dst n ((a7I G.m).drop q) st
theorem d8x{G:Gr}{j:Nat}(h:j<G.m)(n:Int)(st:Fm×List Int):LN G n (j+1) st=Oq G n (LN G n j st) j:=b2F h n st
theorem d9x{G:Gr}(n:Int)(st:Fm×List Int):LN G n G.m st=Nu G n (a7I G.m) st:=by
 unfold LN;rw[a0z (by simp)]
theorem d0y{G:Gr}(dst n:Int)(st:Fm×List Int):nA G dst n G.m st=(false,st):=by
 unfold nA;rw[List.drop_of_length_le (by simp)];rfl
theorem d1y{G:Gr}{j:Nat}(h:j<G.m)(dst n:Int)(st:Fm×List Int):nA G dst n j st=
 if G.ok j=true/\G.F j=n/\Xz st.1 (G.T j)=none then(if G.T j=dst then(true,Oq G n st j)else nA G dst n (j+1) (Oq G n st j))else nA G dst n (j+1) st:=b4F h dst n st
theorem d2y{l:List Eg}(
 hl:l.length<=2^30) (ks:List Int) (WQ:ks.length<2^62) {s:Nat} {e0:Eg} (HE:l[s]? =some e0) (ZV:e0.to≠e0.Z4) {K K2:Nat} {b:Bool} {g:Fm} {out:List Nat}
 (hb:Qx (ZP l (YP ks)) e0.Z4 K [e0.to] [(e0.to, -1)]=some (b,g)) (hc:b=true->Ky (ZP l (YP ks)) g K2 e0.Z4=some out) (hc2:b=false->out=[]) (ho:out.length<=2^30):
 ZX prog false TT [.iv (ZW l),vi e0.to,vi e0.Z4,kL ks] [] (.Zp [.iv (ZW (pick l out.reverse)),vb b]) []:=by
 refine FA (by decide) D2 (by simp) (by decide) ?_;have hs:s<l.length:=(a5y.1 HE).1
 have f1v:ZH (fun _=>none) [Value.int .i64 e0.to] (some [ci (-1)])=gF [(e0.to, -1)]:=by
  rw[a7B];exact a6B (f:=[]) rfl (-1)
 generalize hG:ZP l (YP ks)=G at hb hc
 have hm:G.m=l.length:=by rw[<-hG];rfl
 have hF:∀{k:Nat} {e:Eg},l[k]? =some e->G.F k=e.Z4:=fun h=>by rw[<-hG];exact RK h
 have hT:∀{k:Nat} {e:Eg},l[k]? =some e->G.T k=e.to:=fun h=>by rw[<-hG];exact SE h
 have ZY:∀{k:Nat} {e:Eg},l[k]? =some e->G.ok k=YP ks e:=fun h=>by rw[<-hG];exact a8B h
 simp-dsimp[QX,f1v,ZV]
 refine HZ (fun k st=>∃(circle:List Int) (f:Fm),bkP G s e0.Z4 k circle f (b,g)∧
  st=⟨[(11, .iv (.Z6 1 (YW circle))),(10, .mpr 22),(12,vb false),(0, .iv (ZW l)),(2,vi e0.Z4),(3,kL ks)],[(22, .map H6 (gF f))]⟩) ⟨K,_,LeTo.le (D:=[26,8]) ?_,[e0.to],[(e0.to, -1)],⟨hb,⟨by simp,?_,?_⟩,by simp⟩,rfl⟩ ?_
 ·simp[ZW,YW,ZV]
 ·intro x hx;simp only[a0I,List.map_nil,a1B]at hx;subst hx;exact a0E.2 ⟨s,a6V.2 (by rw[hm];exact hs),hT HE⟩
 ·intro k i hki;simp only[a1B,a2L]at hki;omega
 ·rintro k st ⟨circle,f,⟨h1,h3,h4⟩,rfl⟩
  by_cases QA:circle=[]
  ·subst QA
   have hr:b=false/\g=f:=by cases k<;>simp[Qx]at h1<;>exact⟨h1.1,h1.2.symm⟩
   obtain⟨rfl,rfl⟩:=hr;have CQ:=hc2 rfl;subst CQ;simp-dsimp[RN,YW];refine HZ (fun k s=>k=0/\s=⟨[(20, .sl 20 8 0 0),(12,vb false)],[(20, .list 8 (ZM []))]⟩) ⟨_,_,LeTo.le (D:=[22]) ?_,rfl,rfl⟩ ?_
   ·simp[ZM]
   ·rintro k s ⟨rfl,rfl⟩;simp-dsimp[UL];refine T6 (d4x [] (by simp)) rfl (by simp) (by simp) (by simp) (by simp) (by simp) (by simp[kE]) (by simp) ?_;simp-dsimp;exact⟨[20],by simp[PZ,AV.Xt,ZW,ZM,H5]⟩
  ·have W0:=a6I.2 QA;simp-dsimp[RN,QA,W0]
   obtain⟨k,rfl⟩:∃m,k=m+1:=by
    cases k with
    |zero=>cases circle with
     |nil=>exact absurd rfl QA
     |cons a b=>simp[Qx]at h1
    |succ m=>exact⟨m,rfl⟩
   have Sm:(if(Mz G e0.Z4 circle (f,[])).1=true then some (true,(Mz G e0.Z4 circle (f,[])).2.1)else Qx G e0.Z4 k (Ww G circle (f,[])).2 (Ww G circle (f,[])).1)=some (b,g):=by
    cases circle with
    |nil=>exact absurd rfl QA
    |cons a b=>exact h1
   have f8S:∀j,C8 G s f.length (Ww G (circle.take j) (f,[])):=fun j=>b8F _ ⟨h3,by simp⟩
   refine YJ [] [] circle.length (fun j=>⟨[(39,vi j),(38,vi circle.length),(37, .iv (.Z6 1 (YW circle))),(13, .sl 13 1 0 (Ww G (circle.take j) (f,[])).2.length),(10, .mpr 22),(12,vb false),(0, .iv (ZW l)),(2,vi e0.Z4),(3,kL ks)],
    [(13, .list 1 (YW (Ww G (circle.take j) (f,[])).2)),(22, .map H6 (gF (Ww G (circle.take j) (f,[])).1))]⟩)
    (fun j=>Mz G e0.Z4 (circle.drop j) (Ww G (circle.take j) (f,[]))=Mz G e0.Z4 circle (f,[])) ?_ ?_ ?_
   ·simp[Ww,YW,ZW]
   ·simp[Ww]
   ·intro j hj hQ
    by_cases SJ:j<circle.length
    ·obtain⟨n,hn⟩:=Zr SJ;rw[b5F hn]at hQ;have Zm:=b3F (G:=G) hn (f,[]);have QO:=f8S j;generalize YD:Ww G (circle.take j) (f,[])=st at*;obtain⟨f1,nx⟩:=st;have hjw:=Zk (n:=(j:Int)+1) (by omega);simp-dsimp[OB,hn];refine⟨fun _=>?_,fun h=>absurd h (by omega)⟩
     refine YJ [] [17,79] l.length (fun q=>⟨[(45,vi q),(44,vi l.length),(43, .iv (ZW l)),(15,vi n),(39,vi j),(38,vi circle.length),(37, .iv (.Z6 1 (YW circle))),
      (13, .sl 13 1 0 (LN G n q (f1,nx)).2.length),(10, .mpr 22),(12,vb false),(0, .iv (ZW l)),(2,vi e0.Z4),(3,kL ks)],
      [(13, .list 1 (YW (LN G n q (f1,nx)).2)),(22, .map H6 (gF (LN G n q (f1,nx)).1))]⟩)
      (fun q=>nA G e0.Z4 n q (LN G n q (f1,nx))=MA G e0.Z4 n (a7I G.m) (f1,nx)) ?_ ?_ ?_
     ·simp[LN,Nu,ZW]
     ·simp[LN,Nu,nA]
     ·intro q hq Qu
      by_cases R4:q<l.length
      ·obtain⟨e,he⟩:=Zr R4;rw[d1y (by rw[hm];exact R4)]at Qu;have nz:=d8x (G:=G) (j:=q) (by rw[hm];exact R4) n (f1,nx);have hcq:C8 G s f.length (LN G n q (f1,nx)):=b7F _ (fun x hx=>a6V.1 (a6U hx)) QO;have hcs:=b6F (n:=n) (k:=q) (by rw[hm];exact R4) hcq;generalize h2d:LN G n q (f1,nx)=st2 at*;obtain⟨f2,nx2⟩:=st2
       have f9S:=hcq.len;simp only at f9S;have Ij:=Zk (n:=(q:Int)+1) (by omega);rw[hF he,hT he,ZY he]at Qu
       have WS:Oq G n (f2,nx2) q=if YP ks e=true/\e.Z4=n/\Xz f2 e.to=none then(f2++[(e.to,(q:Int))],nx2++[e.to])else(f2,nx2):=by
        unfold Oq;rw[hF he,hT he,ZY he]
       by_cases R6:e.Z4=n
       ·cases hk:YP ks e with
        |false=>
         rw[hk]at WS Qu;simp only[a1N,false_and,if_false]at WS Qu;rw[WS]at nz;simp-dsimp[Vt,ZW,he,Eg.cells,R6,YB];refine⟨fun _=>?_,fun h=>absurd h (by omega)⟩;refine⟨e2s,PH (e3s ks WQ e) (by simp) (by simp[Eg.av,Eg.cells,R6]) (by simp[Eg.av,Eg.cells]) ?_⟩;simp-dsimp[hk,Ij,nz];exact⟨R4,Qu⟩
        |true=>
         rw[hk,R6]at WS Qu;simp only[true_and]at WS Qu
         cases hf:Xz f2 e.to with
         |some z=>
          rw[hf]at WS Qu;simp only[reduceCtorEq,if_false]at WS Qu;rw[WS]at nz
          have Ht:gF f2 [.int .i64 e.to]=some [ci z]:=by simp[gF,hf]
          simp-dsimp[Vt,ZW,he,Eg.cells,R6,YB];refine⟨fun _=>?_,fun h=>absurd h (by omega)⟩;refine⟨e2s,PH (e3s ks WQ e) (by simp) (by simp[Eg.av,Eg.cells,R6]) (by simp[Eg.av,Eg.cells]) ?_⟩;simp-dsimp[hk,Ij,nz,Ht];exact⟨R4,Qu⟩
         |none=>
          rw[hf]at WS Qu;simp only[if_true]at WS Qu;rw[WS]at nz hcs Qu
          have Ht:gF f2 [.int .i64 e.to]=none:=by simp[gF,hf]
          have Ik:=a6B hf q
          by_cases hd:e.to=e0.Z4
          ·simp only[hd,if_true]at Qu;rw[hd]at Ht Ik;simp-dsimp[Vt,ZW,he,Eg.cells,R6,YB];refine⟨fun _=>?_,fun h=>absurd h (by omega)⟩;refine⟨e2s,PH (e3s ks WQ e) (by simp) (by simp[Eg.av,Eg.cells,R6]) (by simp[Eg.av,Eg.cells]) ?_⟩;simp-dsimp[hk,Ij,Ht,Ik,hd];rw[<-Qu]at hQ;simp only[if_true]at hQ;rw[<-hQ]at Sm
           simp only[if_true,a3y,a2L]at Sm;obtain⟨Dq,hg9⟩:=Sm;have hcg:=hcs.1;rw[hd]at hcg
           have hg:∀k i,(k,i)∈g->i<l.length:=fun k i hi=>by rw[<-hg9]at hi;have:=hcg.val k i hi;rw[hm]at this;exact this
           rw[hg9];subst Dq;have hc:=hc rfl
           refine HZ (fun k s=>∃(pre rest:List Nat) (cur:Int),Ky G g k cur=some rest/\out=pre++rest/\(∀x,x∈pre->x<l.length)∧
            s=⟨[(20, .sl 20 8 0 pre.length),(12,vb true),(10, .mpr 22),(21,vi cur),(0, .iv (ZW l))],[(20, .list 8 (ZM (pick l pre))),(22, .map H6 (gF g))]⟩) ⟨K2,_,LeTo.le (D:=[17,13]) ?_,[],out,_,hc,rfl,by simp,rfl⟩ ?_
           ·simp[H5,ZM,ZW]
           ·rintro k s ⟨pre,rest,cur,g1,g2,g3,rfl⟩
            obtain⟨b,hb,C3,Xj⟩:∃b:Int,(Xz g cur).getD 0=b/\b<l.length/\(gF g [.int .i64 cur]=some [ci b]\/(gF g [.int .i64 cur]=none/\b=0)):=by
             cases hf:Xz g cur with
             |none=>exact⟨0,rfl,by omega, .inr ⟨by simp[gF,hf],rfl⟩⟩
             |some b=>exact⟨b,rfl,hg cur b (d2x hf), .inl (by simp[gF,hf])⟩
            have Ul:(pick l pre).length=pre.length:=Ha g3
            by_cases f2v:b<0
            ·have Ol:rest=[]:=by
              cases k<;>simp only[Ky,hb,f2v,if_true,a3y]at g1<;>exact g1.symm
             have X9:¬0<=b:=by omega
             subst Ol;rw[b9o]at g2;subst g2
             rcases Xj with Xj|⟨_,rfl⟩
             ·simp-dsimp[UL,Xj,X9];refine T6 (by have h:=d4x (pick l out) (by omega);rw[Ul]at h;exact h) rfl (by simp) (by simp) (by simp) (by simp) (by simp) (by simp[kE]) (by simp) ?_
              simp-dsimp;exact⟨[20],by simp[PZ,AV.Xt,ZW,a2C,Ul,a0z (show(ZM (pick l out).reverse).length<=out.length by simp[Ul])]⟩
             ·omega
            ·obtain⟨k,rfl⟩:∃m,k=m+1:=by
              cases k with
              |zero=>simp[Ky,hb,f2v]at g1
              |succ m=>exact⟨m,rfl⟩
             have X9:0<=b:=by omega
             simp only[Ky,hb,f2v,if_false]at g1;obtain⟨nw,g4,rfl⟩:=a9R.1 g1;obtain⟨b,rfl⟩:∃n:Nat,b=n:=⟨b.toNat,by omega⟩;obtain⟨e,he⟩:=Zr (l:=l) (i:=b) (by omega);rw[c4c]at g4 g2;rw[hF he]at g4
             have hlen:pre.length<=2^30:=by rw[g2]at ho;simp at ho;omega
             have f0T:b<l.length:=by omega
             rcases Xj with Xj|⟨Xj,Ts⟩
             ·simp-dsimp[UL,Xj,ZW,he,Eg.cells,Ul];refine⟨by omega,by omega,k,by omega,_,LeTo.le (D:=[106]) ?_,pre++[b],nw,_,g4,by simp[g2],?_,rfl⟩
              ·simp[a0C he,ZM,Eg.cells]
              ·intro x hx
               rcases a9E.1 hx with hx|hx
               ·exact g3 x hx
               ·rw[a1B.1 hx];exact f0T
             ·have Ts:b=0:=by omega
              subst Ts;simp-dsimp[UL,Xj,ZW,he,Eg.cells,Ul];refine⟨by omega,by omega,k,by omega,_,LeTo.le (D:=[106]) ?_,pre++[0],nw,_,g4,by simp[g2],?_,rfl⟩
              ·simp[a0C he,ZM,Eg.cells]
              ·intro x hx
               rcases a9E.1 hx with hx|hx
               ·exact g3 x hx
               ·rw[a1B.1 hx];exact f0T
          ·simp only[hd,if_false]at Qu;simp-dsimp[Vt,ZW,he,Eg.cells,R6,YB];refine⟨fun _=>?_,fun h=>absurd h (by omega)⟩;refine⟨e2s,PH (e3s ks WQ e) (by simp) (by simp[Eg.av,Eg.cells,R6]) (by simp[Eg.av,Eg.cells]) ?_⟩;simp-dsimp[hk,Ij,Ht,Ik,hd,nz];exact⟨by omega,by omega,R4,by simp[YW],Qu⟩
       ·have Oo:¬(YP ks e=true/\e.Z4=n/\Xz f2 e.to=none):=fun h=>R6 h.2.1
        rw[if_neg Oo]at WS Qu;rw[WS]at nz;simp-dsimp[Vt,ZW,he,Eg.cells,R6,YB,Ij,nz];exact⟨fun _=>⟨R4,Qu⟩,fun h=>absurd h (by omega)⟩
      ·have hqe:q=l.length:=by omega
       subst hqe
       have nU:nA G e0.Z4 n l.length (LN G n l.length (f1,nx))=(false,LN G n l.length (f1,nx)):=by rw[<-hm];exact d0y _ _ _
       have T7:LN G n l.length (f1,nx)=Nu G n (a7I G.m) (f1,nx):=by rw[<-hm];exact d9x _ _
       rw[nU]at Qu
       have Oj:(MA G e0.Z4 n (a7I G.m) (f1,nx)).1=false:=by rw[<-Qu]
       rw[if_neg (by rw[Oj];simp)]at hQ;rw[T7];simp-dsimp[Vt,hjw,Zm];exact⟨SJ,hQ⟩
    ·have nW:j=circle.length:=by omega
     subst nW;have QO:=f8S circle.length;rw[List.drop_length]at hQ;simp only[Mz,a6J]at hQ;simp only[a6J]at QO;rw[<-hQ]at Sm;simp only[a1N,if_false]at Sm;simp-dsimp[OB];refine⟨k,by omega,_,LeTo.le (D:=[13]) ?_,(Ww G circle (f,[])).2,(Ww G circle (f,[])).1,⟨Sm,QO.1,by have:=QO.len;omega⟩,rfl⟩;simp[ZW]
     exact a0z (by simp)
theorem b1T{l:List Eg}(hl:l.length<=2^30)(ks:List Int)(WQ:ks.length<2^62){s:Nat}{e0:Eg}(HE:l[s]? =some e0):
 ZX prog false TT [.iv (ZW l),vi e0.to,vi e0.Z4,kL ks] [] (.Zp [.iv (ZW (pick l (WX (ZP l (YP ks)) s).tail)),vb (decide (WX (ZP l (YP ks)) s≠[]))]) []:=by
 have hs:s<l.length:=(a5y.1 HE).1;have hF:=RK (ok:=YP ks) HE;have hT:=SE (ok:=YP ks) HE
 by_cases ZV:e0.to=e0.Z4
 ·have hc:WX (ZP l (YP ks)) s=[s]:=b2E (by rw[hF,hT];exact ZV);have:=d5x (l:=l) ks e0.Z4 (by omega);rw[hc,ZV];simpa[H5]using this
 ·obtain⟨K,b,g,h1,h2⟩:=b5E (G:=ZP l (YP ks)) (s:=s) hs (by rw[hF,hT];exact ZV);rw[hF,hT]at h1
  rcases h2 with⟨rfl,hc⟩|⟨rfl,K2,h3,D,hw⟩
  ·have:=d2y hl ks WQ HE ZV (K2:=0) (out:=[]) h1 (fun h=>by cases h) (fun _=>rfl) (by simp);rw[hc];simpa[H5]using this
  ·rw[hF]at h3;have Z2:=hw.lt;have hlen:=hw.len
   have:=d2y hl ks WQ HE ZV (K2:=K2) (out:=(WX (ZP l (YP ks)) s).tail.reverse) h1 (fun _=>h3) (fun h=>by cases h) (by
    rw[List.length_reverse,c4I,hlen];have:(ZP l (YP ks)).m=l.length:=rfl
    omega)
   rw[List.reverse_reverse]at this;simpa[hw.ne]using this
def Rm(l:List Eg)(ks:List Int)(i:Nat):Bool:=(l[i]?.map (YP ks)).getD false
def Zh(l:List Eg)(fs rs:List Int):List Eg:=pick l (HF (ZP l (YP rs)) (Rm l fs))
theorem b2T{l:List Eg}{ok:Eg->Bool}{s:Nat}{e:Eg}(he:l[s]? =some e)(h:WX (ZP l ok) s≠[]):pick l (WX (ZP l ok) s)=e::pick l (WX (ZP l ok) s).tail:=by
 obtain⟨D,hw,_⟩:=mV (a5y.1 he).1 h;have hh:=hw.head
 cases hc:WX (ZP l ok) s with
 |nil=>exact absurd hc h
 |cons a r=>
  rw[hc]at hh;simp only[List.head?_cons,a3y]at hh;subst hh;exact mQ he r
theorem b3T{l:List Eg}{ok:Eg->Bool}{first:Nat->Bool}{i:Nat}(hi:i<l.length)(hf:first i=true)(hn:ZK i fun j=>first j=true->WX (ZP l ok) j=[])(h:WX (ZP l ok) i≠[]):HF (ZP l ok) first=WX (ZP l ok) i:=by
 unfold HF
 have e:(if first i then WX (ZP l ok) i else[])=WX (ZP l ok) i:=by rw[hf];rfl
 rw[b3o (n:=(ZP l ok).m) (i:=i) (fun j hj=>?_) hi (by rw[e];exact h),e]
 cases QM:first j with
 |false=>rfl
 |true=>exact hn j hj QM
theorem b4T{l:List Eg}{ok:Eg->Bool}{first:Nat->Bool}(hn:ZK l.length fun j=>first j=true->WX (ZP l ok) j=[]):HF (ZP l ok) first=[]:=by
 unfold HF
 refine b2o _ fun j hj=>?_
 cases QM:first j with
 |false=>rfl
 |true=>exact hn j hj QM
theorem b5T{l:List Eg}(hl:l.length<=2^30){ok:Eg->Bool}{s:Nat}(hs:s<l.length):(pick l (WX (ZP l ok) s).tail).length<=2^30:=by
 by_cases h:WX (ZP l ok) s=[]
 ·rw[h];simp[pick]
 ·obtain⟨D,hw,_⟩:=mV (G:=ZP l ok) hs h;have h1:=hw.lt;have h2:=hw.len;have h3:(ZP l ok).m=l.length:=rfl;rw[Ha fun x hx=>hw.WM x (List.mem_of_mem_tail hx),c4I,h2];omega
theorem b6T{l:List Eg}(hl:l.length<=2^30){fs rs:List Int}(oX:fs.length<2^62)(hrs:rs.length<2^62):
 ZX prog false SN [.iv (ZW l), .iv (YI fs), .iv (YI rs)] [] (.iv (ZW (Zh l fs rs))) []:=by
 refine Te kK (by simp) (by decide) ?_;simp-dsimp[a4l];refine Y6 (e5s fs 13) rfl (by simp[YI]) (by simp) (by simp) (by simp) ?_;simp-dsimp
 refine YJ [6,13] [9,31] l.length (fun i=>⟨[(16,vi i),(15,vi l.length),(14, .iv (ZW l)),(7,kL fs),(0, .iv (ZW l)),(2, .iv (YI rs))],[]⟩)
  (fun i=>ZK i fun j=>Rm l fs j=true->WX (ZP l (YP rs)) j=[]) ?_ TP ?_
 ·simp[ZW]
 ·intro i hi hq
  by_cases Zd:i<l.length
  ·obtain⟨e,he⟩:=Zr Zd
   have hf:Rm l fs i=YP fs e:=by simp[Rm,he]
   have hw:=Zk (n:=(i:Int)+1) (by omega);simp-dsimp[Pq,ZW,he,Eg.cells,YB];refine⟨fun _=>?_,fun h=>absurd h (by omega)⟩;refine⟨e2s,PH (e3s fs oX e) (by simp) (by simp[Eg.av,Eg.cells]) (by simp[Eg.av,Eg.cells]) ?_⟩
   cases hk:YP fs e with
   |false=>
    simp-dsimp[hw];exact⟨Zd,hq.succ fun h=>by rw[hf,hk]at h;cases h⟩
   |true=>
    simp-dsimp;have Ul:=b5T (ok:=YP rs) hl Zd;refine⟨⟨?_,?_⟩,⟨?_,?_⟩,?_⟩
    all_goals
     refine Y6 (e5s rs 31) rfl (by simp[YI]) (by simp) (by simp) (by simp) ?_;simp-dsimp;refine d1u (Sg [31] (by decide) _) ?_;refine Y6 (b1T hl rs hrs he) rfl (by simp[ZW]) (by simp) (by simp) (by simp) ?_
     by_cases Ox:WX (ZP l (YP rs)) i=[]
     ·simp-dsimp[Ox,hw];exact⟨Zd,hq.succ fun _=>Ox⟩
     ·have hfd:Zh l fs rs=e::pick l (WX (ZP l (YP rs)) i).tail:=by
       unfold Zh;rw[b3T Zd (by rw[hf];exact hk) hq Ox,b2T he Ox]
      have ht:a1V (pick l (WX (ZP l (YP rs)) i).tail).length (d8i Eg.cells (pick l (WX (ZP l (YP rs)) i).tail))=d8i Eg.cells (pick l (WX (ZP l (YP rs)) i).tail):=a0z (by simp);simp-dsimp[Ox,ZW];exact⟨by omega,by omega,[37,9],by simp[Yz,AV.Xt,hfd,ZM,Eg.cells,Nat.add_comm 1,ht]⟩
  ·have VR:i=l.length:=by omega
   subst VR;simp-dsimp[Pq,ZW];exact⟨[6],by simp[Yz,AV.Xt,Zh,b4T hq,H5,ZM]⟩
def Up(b:Int):List IV:=[ci b,cb false,ci 0,cb false,ci 0, .v (.string ⟨#[]⟩),cb false]
inductive Bk:Int->List Int->Prop
 |any:Bk 62 [1,2,3,4,5]
 |ww:Bk 2 [1]
 |rw:Bk 16 [4]
 |mh:Bk 14 [1,2,3]
 |WR:Bk 48 [4,5]
theorem Bk.out{b:Int}{ks:List Int}(h:Bk b ks){x:Int}(hx:x<1\/5<x):x∉ks:=by
 cases h<;>simp<;>omega
theorem c8e:YT .shr (.int .i64 62) (.int .u64 (IntKind.u64.wrap 1))=some (.int .i64 31):=by kernel_rfl
theorem c9e:YT .shr (.int .i64 62) (.int .u64 (IntKind.u64.wrap 2))=some (.int .i64 15):=by kernel_rfl
theorem c0f:YT .shr (.int .i64 62) (.int .u64 (IntKind.u64.wrap 3))=some (.int .i64 7):=by kernel_rfl
theorem c1f:YT .shr (.int .i64 62) (.int .u64 (IntKind.u64.wrap 4))=some (.int .i64 3):=by kernel_rfl
theorem c2f:YT .shr (.int .i64 62) (.int .u64 (IntKind.u64.wrap 5))=some (.int .i64 1):=by kernel_rfl
theorem c3f:YT .shr (.int .i64 2) (.int .u64 (IntKind.u64.wrap 1))=some (.int .i64 1):=by kernel_rfl
theorem c4f:YT .shr (.int .i64 2) (.int .u64 (IntKind.u64.wrap 2))=some (.int .i64 0):=by kernel_rfl
theorem c5f:YT .shr (.int .i64 2) (.int .u64 (IntKind.u64.wrap 3))=some (.int .i64 0):=by kernel_rfl
theorem c6f:YT .shr (.int .i64 2) (.int .u64 (IntKind.u64.wrap 4))=some (.int .i64 0):=by kernel_rfl
theorem c7f:YT .shr (.int .i64 2) (.int .u64 (IntKind.u64.wrap 5))=some (.int .i64 0):=by kernel_rfl
theorem c8f:YT .shr (.int .i64 16) (.int .u64 (IntKind.u64.wrap 1))=some (.int .i64 8):=by kernel_rfl
theorem c9f:YT .shr (.int .i64 16) (.int .u64 (IntKind.u64.wrap 2))=some (.int .i64 4):=by kernel_rfl
theorem c0g:YT .shr (.int .i64 16) (.int .u64 (IntKind.u64.wrap 3))=some (.int .i64 2):=by kernel_rfl
theorem c1g:YT .shr (.int .i64 16) (.int .u64 (IntKind.u64.wrap 4))=some (.int .i64 1):=by kernel_rfl
theorem c2g:YT .shr (.int .i64 16) (.int .u64 (IntKind.u64.wrap 5))=some (.int .i64 0):=by kernel_rfl
theorem c3g:YT .shr (.int .i64 14) (.int .u64 (IntKind.u64.wrap 1))=some (.int .i64 7):=by kernel_rfl
theorem c4g:YT .shr (.int .i64 14) (.int .u64 (IntKind.u64.wrap 2))=some (.int .i64 3):=by kernel_rfl
theorem c5g:YT .shr (.int .i64 14) (.int .u64 (IntKind.u64.wrap 3))=some (.int .i64 1):=by kernel_rfl
theorem c6g:YT .shr (.int .i64 14) (.int .u64 (IntKind.u64.wrap 4))=some (.int .i64 0):=by kernel_rfl
theorem c7g:YT .shr (.int .i64 14) (.int .u64 (IntKind.u64.wrap 5))=some (.int .i64 0):=by kernel_rfl
theorem c8g:YT .shr (.int .i64 48) (.int .u64 (IntKind.u64.wrap 1))=some (.int .i64 24):=by kernel_rfl
theorem c9g:YT .shr (.int .i64 48) (.int .u64 (IntKind.u64.wrap 2))=some (.int .i64 12):=by kernel_rfl
theorem c0h:YT .shr (.int .i64 48) (.int .u64 (IntKind.u64.wrap 3))=some (.int .i64 6):=by kernel_rfl
theorem c1h:YT .shr (.int .i64 48) (.int .u64 (IntKind.u64.wrap 4))=some (.int .i64 3):=by kernel_rfl
theorem c2h:YT .shr (.int .i64 48) (.int .u64 (IntKind.u64.wrap 5))=some (.int .i64 1):=by kernel_rfl
theorem c3h{b:Int}{ks:List Int}(h:Bk b ks)(e:Eg):ZX prog true K8 [.agg ((Up b).map .iv),e.av] [] (vb (YP ks e)) []:=by
 refine YG kG (by simp) (by decide) rfl ?_
 by_cases h1:e.kind<1
 ·have hk:YP ks e=false:=by simpa[YP]using h.out (.inl h1)
  simp-dsimp[a5m,Eg.av,Eg.cells,Up,h1,hk]
 ·by_cases h2:5<e.kind
  ·have hk:YP ks e=false:=by simpa[YP]using h.out (.inr h2)
   simp-dsimp[a5m,Eg.av,Eg.cells,Up,h1,h2,hk]
  ·have:e.kind=1\/e.kind=2\/e.kind=3\/e.kind=4\/e.kind=5:=by omega
   rcases this with he|he|he|he|he<;>cases h<;>
    simp-dsimp[a5m,Eg.av,Eg.cells,Up,he,YP,c8e,c9e,c0f,c1f,c2f,c3f,c4f,c5f,c6f,c7f,c8f,c9f,c0g,c1g,c2g,c3g,c4g,c5g,c6g,c7g,c8g,c9g,c0h,c1h,c2h]<;>decide
variable{l:List Eg}{ok:Eg->Bool}
theorem c4h{p:List Nat}(hp:∀k,k∈p->k<l.length)(ZV:p≠[]):∃e,(pick l p)[p.length-1]? =some e/\e.to=nd (ZP l ok) p:=by
 obtain⟨q,k,rfl⟩:∃q k,p=q++[k]:=⟨p.dropLast,p.getLast ZV,(c0N ZV).symm⟩;obtain⟨e,he⟩:=Zr (hp k (by simp));refine⟨e,?_,?_⟩
 ·rw[a4C hp];simp[he]
 ·rw[Ow,SE he]
theorem c5h{p:List Nat}(hp:∀k,k∈p->k<l.length)(ZV:p≠[]):∃e,(pick l p)[0]? =some e/\e.Z4=(ZP l ok).F (p.headD 0):=by
 cases p with
 |nil=>exact absurd rfl ZV
 |cons k q=>
  obtain⟨e,he⟩:=Zr (hp k (by simp));exact⟨e,by rw[mQ he];rfl,(RK he).symm⟩
theorem c6h(p:List Nat):Xv (ZP l ok) 0 p=if nd (ZP l ok) p=(ZP l ok).F (p.headD 0)then p else[]:=rfl
theorem c7h(n:Nat)(p:List Nat):Xv (ZP l ok) (n+1) p=S4 (fun k=>if c1 (G:=ZP l ok) p k then Xv (ZP l ok) n (p++[k])else[]) l.length:=rfl
theorem c8h:∀(n:Nat) {p:List Nat},(∀k,k∈p->k<l.length)->∀k,k∈Xv (ZP l ok) n p->k<l.length:=by
 intro n
 induction n with
 |zero=>
  intro p hp k hk;rw[c6h]at hk;split at hk
  ·exact hp k hk
  ·cases hk
 |succ n ih=>
  intro p hp k hk;rw[c7h]at hk;obtain⟨i,hi,h2,_⟩:=b5o (c3u hk);rw[h2]at hk;split at hk
  ·refine ih (fun x hx=>?_) k hk
   rcases a9E.1 hx with hx|hx
   ·exact hp x hx
   ·rw[a1B.1 hx];exact hi
  ·cases hk
theorem c9h:∀(n:Nat) {p:List Nat},(Xv (ZP l ok) n p).length<=p.length+n:=by
 intro n
 induction n with
 |zero=>intro p;rw[c6h];split<;>simp
 |succ n ih=>
  intro p;rw[c7h]
  by_cases h:S4 (fun k=>if c1 (G:=ZP l ok) p k then Xv (ZP l ok) n (p++[k])else[]) l.length=[]
  ·rw[h];simp
  ·obtain⟨i,hi,h2,_⟩:=b5o h;rw[h2];split
   ·have:=ih (p:=p++[i]);simp at this;omega
   ·simp
theorem f3Q{p:List Nat}{k:Nat}{e:Eg}(hp:∀k,k∈p->k<l.length)(he:l[k]? =some e):c1 (G:=ZP l ok) p k=decide (ok e=true/\e.Z4=nd (ZP l ok) p/\e.to∉(pick l p).map Eg.to):=by
 simp only[c1,a8B he,RK he,SE he,a5C (ok:=ok) hp]
theorem c0i{b:Int}{ks:List Int}(hb:Bk b ks)(hl:l.length<=2^30):∀(n:Nat) {p:List Nat},p≠[]->(∀k,k∈p->k<l.length)->p.length+n<=2^30->
 ZX prog false K7 [.iv (ZW l), .iv (ZW (pick l p)), .agg ((Up b).map .iv),vi n] [] (.iv (ZW (pick l (Xv (ZP l (YP ks)) n p)))) []:=by
 intro n
 induction n with
 |zero=>
  intro p ZV hp hlen;have Ul:=Ha hp;have W0:=a6I.2 ZV;obtain⟨e,he,heT⟩:=c4h (ok:=YP ks) hp ZV;obtain⟨e2,Fa,heF⟩:=c5h (ok:=YP ks) hp ZV;rw[c6h, <-heT, <-heF];refine Te E7 (by simp) (by decide) ?_;obtain⟨j,hj⟩:∃j,p.length-1=j:=⟨_,rfl⟩;rw[hj]at he;have hw:=Zk (n:=(j:Int)) (by omega)
  have hi:(p.length:Int)-1=j:=by omega
  simp-dsimp[e7l,ZW,Up,Ul,hw,hi,he,Fa,Eg.cells,YB];refine⟨fun hq=>⟨[9,6],by simp[Yz,AV.Xt,hq,ZM]⟩,fun hq=>⟨[8,9,6],by simp[Yz,AV.Xt,hq,ZM,H5]⟩⟩
 |succ n ih=>
  intro p ZV hp hlen;have Ul:=Ha hp;have W0:=a6I.2 ZV;obtain⟨e,he,heT⟩:=c4h (ok:=YP ks) hp ZV;refine Te E7 (by simp) (by decide) ?_;obtain⟨j,hj⟩:∃j,p.length-1=j:=⟨_,rfl⟩;rw[hj]at he;have hw:=Zk (n:=(j:Int)) (by omega)
  have hi:(p.length:Int)-1=j:=by omega
  have H4:=Zk (n:=((n+1:Nat):Int)-1) (by omega);simp-dsimp[e7l,ZW,Up,Ul,hw,hi,he,Eg.cells,YB];refine⟨fun h=>absurd h (by omega),fun _=>?_⟩
  refine YJ [8] [11] l.length (fun i=>⟨[(10,vi i),(9, .ptr 9 0),(6, .ptr 6 0),(0, .iv (ZW l)),(1, .iv (ZW (pick l p))),(3,vi ((n:Int)+1))],[(9, .box (e.cells.map .iv)),(6, .box ((Up b).map .iv))]⟩)
   (fun i=>S4 (fun k=>if c1 (G:=ZP l (YP ks)) p k then Xv (ZP l (YP ks)) n (p++[k])else[]) i=[]) ?_ rfl ?_
  ·simp[Eg.cells,Up,ZW]
  ·intro i hi hq
   by_cases Zd:i<l.length
   ·obtain⟨e1,MZ⟩:=Zr Zd;have QO:=f3Q (ok:=YP ks) hp MZ;have Tp:=b9n hq;have Sc:=Zk (n:=(i:Int)+1) (by omega);simp-dsimp[Po,ZW,MZ,Eg.cells,YB,Up];refine⟨fun _=>?_,fun h=>absurd h (by omega)⟩;refine ZN (c3h hb e1) (by simp[Up,Eg.av,Eg.cells]) (by simp[Eg.av,Eg.cells,Up]) ?_
    cases hk:YP ks e1 with
    |false=>
     have Mm:c1 (G:=ZP l (YP ks)) p i=false:=by rw[QO,hk];simp
     rw[Mm]at Tp;simp-dsimp[Sc];exact⟨Zd,Tp⟩
    |true=>
     by_cases R6:e1.Z4=e.to
     ·simp-dsimp[R6];refine ZN (d:=57) (e1s (pick l p) (by omega) e1.to) (by simp[ZW]) (by simp[ZW]) ?_
      cases hm:decide (e1.to∈(pick l p).map Eg.to)with
      |true=>
       have Mm:c1 (G:=ZP l (YP ks)) p i=false:=by rw[QO];simp only[decide_eq_true_eq]at hm;simp[hm]
       rw[Mm]at Tp;simp-dsimp[Sc];exact⟨Zd,Tp⟩
      |false=>
       have hct:c1 (G:=ZP l (YP ks)) p i=true:=by
        rw[QO];simp only[decide_eq_false_iff_not]at hm;simp only[hk,R6,heT,hm,decide_true,true_and,not_false_eq_true]
       rw[hct]at Tp;have hwn:=Zk (n:=(n:Int)) (by omega)
       have Fg:ZM (pick l p)++[[ci e.to,ci e1.to,ci e1.kind,ci e1.table,cb e1.key.text,ci e1.key.n, .v (.string e1.key.s),cb e1.Zw]]=ZM (pick l (p++[i])):=by
        rw[a0C MZ, <-R6];simp[ZM,Eg.cells]
       have MR:∀k,k∈p++[i]->k<l.length:=fun k hk=>by
        rcases a9E.1 hk with hk|hk
        ·exact hp k hk
        ·rw[a1B.1 hk];exact Zd
       have Ns:=Ha MR;have ht:a1V (p.length+1) (ZM (pick l (p++[i])))=ZM (pick l (p++[i])):=a0z (by simp[Ns]);simp-dsimp[Sc,hwn,Fg,Ul];refine⟨by omega,by omega,by omega,by omega,?_⟩;refine d1u (Sg [64] (by decide) _) ?_
       refine Y6 (ih (p:=p++[i]) (by simp) MR (by simp;omega)) rfl (by simp[ZW,Up,ht]) (by simp) (by simp) (by simp) ?_;have hwl:=c9h (l:=l) (ok:=YP ks) n (p:=p++[i]);have hwp:=Ha (l:=l) (c8h (ok:=YP ks) n MR);rw[a7J,b4p]at hwl
       by_cases hz:Xv (ZP l (YP ks)) n (p++[i])=[]
       ·simp-dsimp[hz,ZW,ZM,H5,Sc];exact⟨Zd,by rw[Tp];simpa using hz⟩
       ·have NI:=a6I.2 hz;simp only[if_true]at Tp
        have TN:Xv (ZP l (YP ks)) (n+1) p=Xv (ZP l (YP ks)) n (p++[i]):=by
         rw[c7h,b1o (j:=i+1) (by rw[Tp];exact hz) Zd,Tp]
        simp-dsimp[ZW,hwp,NI,TN];exact⟨[11,9,6],by simp[Yz,AV.Xt]⟩
     ·have Mm:c1 (G:=ZP l (YP ks)) p i=false:=by rw[QO, <-heT];simp[R6]
      rw[Mm]at Tp;simp-dsimp[R6,Sc];exact⟨Zd,Tp⟩
   ·have VR:i=l.length:=by omega
    subst VR;simp-dsimp[Po,ZW];exact⟨[8,9,6],by simp[Yz,AV.Xt,c7h,hq,ZM,H5]⟩
end Go.Rt
end

section
namespace Go.Rt
open Go.Vm
variable{l:List Eg}{ok:Eg->Bool}
theorem b9J(s:Nat):WX (ZP l ok) s=S4 (fun n=>Xv (ZP l ok) n [s]) (l.length+1):=rfl
theorem b0K{bf br:Int}{fs rs:List Int}(hf:Bk bf fs)(hr:Bk br rs)(hl:l.length<=2^29):
 ZX prog false TV [.iv (ZW l), .agg ((Up bf).map .iv), .agg ((Up br).map .iv)] [] (.iv (ZW (Zh l fs rs))) []:=by
 refine Te kV (by simp) (by decide) ?_;simp-dsimp[a7l,Up]
 refine YJ [6] [] l.length (fun i=>⟨[(7,vi i),(4, .ptr 4 0),(5, .ptr 5 0),(0, .iv (ZW l))],[(5, .box ((Up br).map .iv)),(4, .box ((Up bf).map .iv))]⟩)
  (fun i=>ZK i fun j=>Rm l fs j=true->WX (ZP l (YP rs)) j=[]) ?_ TP ?_
 ·simp[Up]
 ·intro i hi hq
  by_cases Zd:i<l.length
  ·obtain⟨e,he⟩:=Zr Zd
   have oX:Rm l fs i=YP fs e:=by simp[Rm,he]
   have Sc:=Zk (n:=(i:Int)+1) (by omega);simp-dsimp[Pt,ZW,he,Eg.cells,YB,Up];refine⟨fun _=>?_,fun h=>absurd h (by omega)⟩;refine ZN (c3h hf e) (by simp[Up,Eg.av,Eg.cells]) (by simp[Eg.av,Eg.cells,Up]) ?_
   cases hk:YP fs e with
   |false=>
    simp-dsimp[Sc];exact⟨Zd,hq.succ fun h=>by rw[oX,hk]at h;cases h⟩
   |true=>
    simp-dsimp
    refine YJ [] [36] (l.length+1) (fun n=>⟨[(9,vi n),(7,vi i),(4, .ptr 4 0),(5, .ptr 5 0),(0, .iv (ZW l))],[(5, .box ((Up br).map .iv)),(4, .box ((Up bf).map .iv))]⟩)
     (fun n=>S4 (fun n=>Xv (ZP l (YP rs)) n [i]) n=[]) ?_ rfl ?_
    ·simp[Up,ZW]
    ·intro n hn Qm;have hwn:=Zk (n:=(n:Int)+1) (by omega)
     by_cases hnl:n<=l.length
     ·have Tp:=b9n Qm
      have Fg:[[ci e.Z4,ci e.to,ci e.kind,ci e.table,cb e.key.text,ci e.key.n, .v (.string e.key.s),cb e.Zw]]=ZM (pick l [i]):=by
       rw[mQ he,H5];rfl
      simp-dsimp[Ps,ZW,he,Eg.cells,YB,Up];refine⟨fun _=>?_,fun h=>absurd h (by omega)⟩;refine Y6 (c0i (l:=l) hr (by omega) n (p:=[i]) (by simp) (by simpa using Zd) (by simp;omega)) rfl (by simp[ZW,Up,Fg];exact a0z (by simp[ZM,mQ he,H5])) (by simp) (by simp) (by simp) ?_
      have hwp:=Ha (l:=l) (c8h (ok:=YP rs) n (p:=[i]) (by simpa using Zd))
      by_cases hz:Xv (ZP l (YP rs)) n [i]=[]
      ·simp-dsimp[hz,ZW,ZM,H5,hwn];exact⟨by omega,by rw[Tp];exact hz⟩
      ·have NI:=a6I.2 hz
       have Ox:WX (ZP l (YP rs)) i=Xv (ZP l (YP rs)) n [i]:=by
        rw[b9J,b1o (j:=n+1) (by rw[Tp];exact hz) (by omega),Tp]
       have hfd:Zh l fs rs=pick l (Xv (ZP l (YP rs)) n [i]):=by
        unfold Zh;rw[b3T Zd (by rw[oX];exact hk) hq (by rw[Ox];exact hz),Ox]
       simp-dsimp[ZW,hwp,NI];exact⟨[5,4],by simp[Yz,AV.Xt,hfd]⟩
     ·have ZV:n=l.length+1:=by omega
      have Oo:¬(n:Int)<=l.length:=by omega
      have g5x:¬n<=l.length:=by omega
      have Ox:WX (ZP l (YP rs)) i=[]:=by rw[b9J, <-ZV];exact Qm
      simp-dsimp[Ps,ZW,Oo,g5x,Sc,Up];exact⟨Zd,hq.succ fun _=>Ox⟩
  ·have VR:i=l.length:=by omega
   subst VR;simp-dsimp[Pt,ZW];exact⟨[6,5,4],by simp[Yz,AV.Xt,Zh,b4T hq,H5,ZM]⟩
end Go.Rt
end

section
namespace Go.Rt
open Go.Vm
@[simp]def g1y:=[wx 1 0,wb 2 false]
@[simp]def g2y:=[w0 10 Ql,wm 3 10]
@[simp]def g3y:=[wm 11 3,wu 12 11]
@[simp]def g4y:=[wb 2 false]
@[simp]def g5y:=[ws 13 1 3,Y1 14 f7N 13,wm 4 14]
@[simp]def g6y:=[wm 15 4,wu 16 15]
@[simp]def g7y:=[wb 2 true]
@[simp]def fp:VT:=
 V1 18 XW 17<|Ys 19 1 3<|V1 20 Qk 19<|V2 21 X6 18 20<|ym 5 21<|.done
@[simp]def fm:VT:=
 Ys 19 1 3<|V1 18 XW 17<|V1 20 Qk 19<|V2 21 X6 18 20<|ym 5 21<|.done
@[simp]def g8y:VT:=
 Ys 17 1 3<|.alt (fp) (fm)
@[simp]def fl:VT:=
 V1 23 XC 22<|Ys 24 1 3<|V1 25 Oc 24<|V2 26 X6 23 25<|ym 6 26<|.done
@[simp]def fk:VT:=
 Ys 24 1 3<|V1 23 XC 22<|V1 25 Oc 24<|V2 26 X6 23 25<|ym 6 26<|.done
@[simp]def g9y:VT:=
 Ys 22 1 3<|.alt (fl) (fk)
@[simp]def fj:VT:=
 V1 28 Xq 27<|Ys 29 1 3<|V1 30 oH 29<|V2 31 X6 28 30<|ym 7 31<|.done
@[simp]def fh:VT:=
 Ys 29 1 3<|V1 28 Xq 27<|V1 30 oH 29<|V2 31 X6 28 30<|ym 7 31<|.done
@[simp]def g0z:VT:=
 Ys 27 1 3<|.alt (fj) (fh)
@[simp]def fg:VT:=
 V1 33 Xp 32<|Ys 34 1 3<|V1 35 oG 34<|V2 36 X6 33 35<|ym 8 36<|.done
@[simp]def ff:VT:=
 Ys 34 1 3<|V1 33 Xp 32<|V1 35 oG 34<|V2 36 X6 33 35<|ym 8 36<|.done
@[simp]def g7b:VT:=
 Ys 32 1 3<|.alt (fg) (ff)
@[simp]def fe:VT:=
 V1 38 Xc 37<|Ys 39 1 3<|V1 40 Oa 39<|V2 41 X6 38 40<|ym 9 41<|.done
@[simp]def fb:VT:=
 Ys 39 1 3<|V1 38 Xc 37<|V1 40 Oa 39<|V2 41 X6 38 40<|ym 9 41<|.done
@[simp]def g8b:VT:=
 Ys 37 1 3<|.alt (fe) (fb)
@[simp]def g9b:=[wm 42 5,wm 43 42,Ym 44 43 6,wp 45 43 44,wm 46 45,Ym 47 46 7,wp 48 46 47,wm 49 48,Ym 50 49 8,wp 51 49 50,wm 52 51,Ym 53 52 9,wp 54 52 53,wm 2 54]
@[simp]def g1z:=[wx 1 0,wb 2 false]
@[simp]def g2z:=[w0 13 Ql,wm 3 13]
@[simp]def g3z:=[wm 14 3,wu 15 14]
@[simp]def g4z:=[wb 2 false]
@[simp]def g5z:=[ws 16 1 3,Y1 17 WN 16,wm 4 17]
@[simp]def g6z:=[wm 18 4,wu 19 18]
@[simp]def g7z:=[wb 2 true]
@[simp]def g8z:=[ws 20 1 3,Y1 21 Wc 20,wm 5 21]
@[simp]def ES:VT:=
 V1 29 Xp 28<|Ys 30 1 3<|V1 31 Xc 30<|oc 32 (.lit 1 5 [(0,(T 23)),(1,(T 25)),(2,(T 27)),(3,(T 29)),(4,(T 31))])<|ym 6 32<|.done
@[simp]def ER:VT:=
 Ys 30 1 3<|V1 29 Xp 28<|V1 31 Xc 30<|oc 32 (.lit 1 5 [(0,(T 23)),(1,(T 25)),(2,(T 27)),(3,(T 29)),(4,(T 31))])<|ym 6 32<|.done
@[simp]def EP:VT:=
 V1 27 Xq 26<|Ys 28 1 3<|.alt (ES) (ER)
@[simp]def Mf:VT:=
 V1 27 Xq 26<|.alt (ES) (ER)
@[simp]def Me:VT:=
 Ys 30 1 3<|V1 27 Xq 26<|V1 29 Xp 28<|V1 31 Xc 30<|oc 32 (.lit 1 5 [(0,(T 23)),(1,(T 25)),(2,(T 27)),(3,(T 29)),(4,(T 31))])<|ym 6 32<|.done
@[simp]def e8:VT:=
 Ys 28 1 3<|.alt (Mf) (Me)
@[simp]def Md:VT:=
 V1 27 Xq 26<|Ys 28 1 3<|V1 29 Xp 28<|V1 31 Xc 30<|oc 32 (.lit 1 5 [(0,(T 23)),(1,(T 25)),(2,(T 27)),(3,(T 29)),(4,(T 31))])<|ym 6 32<|.done
@[simp]def Mc:VT:=
 Ys 28 1 3<|V1 27 Xq 26<|V1 29 Xp 28<|V1 31 Xc 30<|oc 32 (.lit 1 5 [(0,(T 23)),(1,(T 25)),(2,(T 27)),(3,(T 29)),(4,(T 31))])<|ym 6 32<|.done
@[simp]def e7:VT:=
 Ys 30 1 3<|.alt (Md) (Mc)
@[simp]def EO:VT:=
 .alt (e8) (e7)
@[simp]def Ka:VT:=
 V1 25 XC 24<|Ys 26 1 3<|.alt (EP) (EO)
@[simp]def Pg:VT:=
 V1 25 XC 24<|.alt (EP) (EO)
@[simp]def RZ:VT:=
 V1 25 XC 24<|.alt (Mf) (Me)
@[simp]def RY:VT:=
 Ys 30 1 3<|V1 25 XC 24<|V1 27 Xq 26<|V1 29 Xp 28<|V1 31 Xc 30<|oc 32 (.lit 1 5 [(0,(T 23)),(1,(T 25)),(2,(T 27)),(3,(T 29)),(4,(T 31))])<|ym 6 32<|.done
@[simp]def AS:VT:=
 Ys 28 1 3<|.alt (RZ) (RY)
@[simp]def RX:VT:=
 V1 25 XC 24<|.alt (Md) (Mc)
@[simp]def RW:VT:=
 Ys 28 1 3<|V1 25 XC 24<|V1 27 Xq 26<|V1 29 Xp 28<|V1 31 Xc 30<|oc 32 (.lit 1 5 [(0,(T 23)),(1,(T 25)),(2,(T 27)),(3,(T 29)),(4,(T 31))])<|ym 6 32<|.done
@[simp]def AQ:VT:=
 Ys 30 1 3<|.alt (RX) (RW)
@[simp]def Pf:VT:=
 .alt (AS) (AQ)
@[simp]def AP:VT:=
 Ys 26 1 3<|.alt (Pg) (Pf)
@[simp]def Pe:VT:=
 V1 25 XC 24<|Ys 26 1 3<|.alt (Mf) (Me)
@[simp]def AO:VT:=
 Ys 26 1 3<|.alt (RZ) (RY)
@[simp]def RV:VT:=
 V1 25 XC 24<|Ys 26 1 3<|V1 27 Xq 26<|V1 29 Xp 28<|V1 31 Xc 30<|oc 32 (.lit 1 5 [(0,(T 23)),(1,(T 25)),(2,(T 27)),(3,(T 29)),(4,(T 31))])<|ym 6 32<|.done
@[simp]def RU:VT:=
 Ys 26 1 3<|V1 25 XC 24<|V1 27 Xq 26<|V1 29 Xp 28<|V1 31 Xc 30<|oc 32 (.lit 1 5 [(0,(T 23)),(1,(T 25)),(2,(T 27)),(3,(T 29)),(4,(T 31))])<|ym 6 32<|.done
@[simp]def AN:VT:=
 Ys 30 1 3<|.alt (RV) (RU)
@[simp]def Pc:VT:=
 .alt (AO) (AN)
@[simp]def AL:VT:=
 Ys 28 1 3<|.alt (Pe) (Pc)
@[simp]def Pb:VT:=
 V1 25 XC 24<|Ys 26 1 3<|.alt (Md) (Mc)
@[simp]def AK:VT:=
 Ys 26 1 3<|.alt (RX) (RW)
@[simp]def AJ:VT:=
 Ys 28 1 3<|.alt (RV) (RU)
@[simp]def Pa:VT:=
 .alt (AK) (AJ)
@[simp]def AI:VT:=
 Ys 30 1 3<|.alt (Pb) (Pa)
@[simp]def AH:VT:=
 .alt (AL) (AI)
@[simp]def J9:VT:=
 .alt (AP) (AH)
@[simp]def AG:VT:=
 V1 23 XW 22<|Ys 24 1 3<|.alt (Ka) (J9)
@[simp]def AF:VT:=
 V1 23 XW 22<|.alt (Ka) (J9)
@[simp]def J8:VT:=
 V1 23 XW 22<|.alt (Pg) (Pf)
@[simp]def O9:VT:=
 V1 23 XW 22<|.alt (RZ) (RY)
@[simp]def O8:VT:=
 Ys 30 1 3<|V1 23 XW 22<|V1 25 XC 24<|V1 27 Xq 26<|V1 29 Xp 28<|V1 31 Xc 30<|oc 32 (.lit 1 5 [(0,(T 23)),(1,(T 25)),(2,(T 27)),(3,(T 29)),(4,(T 31))])<|ym 6 32<|.done
@[simp]def AE:VT:=
 Ys 28 1 3<|.alt (O9) (O8)
@[simp]def O7:VT:=
 V1 23 XW 22<|.alt (RX) (RW)
@[simp]def O6:VT:=
 Ys 28 1 3<|V1 23 XW 22<|V1 25 XC 24<|V1 27 Xq 26<|V1 29 Xp 28<|V1 31 Xc 30<|oc 32 (.lit 1 5 [(0,(T 23)),(1,(T 25)),(2,(T 27)),(3,(T 29)),(4,(T 31))])<|ym 6 32<|.done
@[simp]def AB:VT:=
 Ys 30 1 3<|.alt (O7) (O6)
@[simp]def J7:VT:=
 .alt (AE) (AB)
@[simp]def AA:VT:=
 Ys 26 1 3<|.alt (J8) (J7)
@[simp]def J6:VT:=
 V1 23 XW 22<|.alt (Pe) (Pc)
@[simp]def Az:VT:=
 Ys 26 1 3<|.alt (O9) (O8)
@[simp]def O5:VT:=
 V1 23 XW 22<|.alt (RV) (RU)
@[simp]def O4:VT:=
 Ys 26 1 3<|V1 23 XW 22<|V1 25 XC 24<|V1 27 Xq 26<|V1 29 Xp 28<|V1 31 Xc 30<|oc 32 (.lit 1 5 [(0,(T 23)),(1,(T 25)),(2,(T 27)),(3,(T 29)),(4,(T 31))])<|ym 6 32<|.done
@[simp]def Ay:VT:=
 Ys 30 1 3<|.alt (O5) (O4)
@[simp]def J5:VT:=
 .alt (Az) (Ay)
@[simp]def Ax:VT:=
 Ys 28 1 3<|.alt (J6) (J5)
@[simp]def J4:VT:=
 V1 23 XW 22<|.alt (Pb) (Pa)
@[simp]def Aw:VT:=
 Ys 26 1 3<|.alt (O7) (O6)
@[simp]def Av:VT:=
 Ys 28 1 3<|.alt (O5) (O4)
@[simp]def J3:VT:=
 .alt (Aw) (Av)
@[simp]def Au:VT:=
 Ys 30 1 3<|.alt (J4) (J3)
@[simp]def As:VT:=
 .alt (Ax) (Au)
@[simp]def Ar:VT:=
 .alt (AA) (As)
@[simp]def Aq:VT:=
 Ys 24 1 3<|.alt (AF) (Ar)
@[simp]def Ap:VT:=
 V1 23 XW 22<|Ys 24 1 3<|.alt (Pg) (Pf)
@[simp]def Ao:VT:=
 Ys 24 1 3<|.alt (J8) (J7)
@[simp]def J2:VT:=
 V1 23 XW 22<|Ys 24 1 3<|.alt (RZ) (RY)
@[simp]def An:VT:=
 Ys 24 1 3<|.alt (O9) (O8)
@[simp]def O2:VT:=
 V1 23 XW 22<|Ys 24 1 3<|V1 25 XC 24<|V1 27 Xq 26<|V1 29 Xp 28<|V1 31 Xc 30<|oc 32 (.lit 1 5 [(0,(T 23)),(1,(T 25)),(2,(T 27)),(3,(T 29)),(4,(T 31))])<|ym 6 32<|.done
@[simp]def O1:VT:=
 Ys 24 1 3<|V1 23 XW 22<|V1 25 XC 24<|V1 27 Xq 26<|V1 29 Xp 28<|V1 31 Xc 30<|oc 32 (.lit 1 5 [(0,(T 23)),(1,(T 25)),(2,(T 27)),(3,(T 29)),(4,(T 31))])<|ym 6 32<|.done
@[simp]def Am:VT:=
 Ys 30 1 3<|.alt (O2) (O1)
@[simp]def J1:VT:=
 .alt (An) (Am)
@[simp]def Al:VT:=
 Ys 28 1 3<|.alt (J2) (J1)
@[simp]def J0:VT:=
 V1 23 XW 22<|Ys 24 1 3<|.alt (RX) (RW)
@[simp]def Ak:VT:=
 Ys 24 1 3<|.alt (O7) (O6)
@[simp]def Aj:VT:=
 Ys 28 1 3<|.alt (O2) (O1)
@[simp]def JZ:VT:=
 .alt (Ak) (Aj)
@[simp]def Ai:VT:=
 Ys 30 1 3<|.alt (J0) (JZ)
@[simp]def Ah:VT:=
 .alt (Al) (Ai)
@[simp]def Ag:VT:=
 .alt (Ao) (Ah)
@[simp]def Af:VT:=
 Ys 26 1 3<|.alt (Ap) (Ag)
@[simp]def Ae:VT:=
 V1 23 XW 22<|Ys 24 1 3<|.alt (Pe) (Pc)
@[simp]def Ad:VT:=
 Ys 24 1 3<|.alt (J6) (J5)
@[simp]def Ac:VT:=
 Ys 26 1 3<|.alt (J2) (J1)
@[simp]def JY:VT:=
 V1 23 XW 22<|Ys 24 1 3<|.alt (RV) (RU)
@[simp]def Ab:VT:=
 Ys 24 1 3<|.alt (O5) (O4)
@[simp]def Aa:VT:=
 Ys 26 1 3<|.alt (O2) (O1)
@[simp]def JX:VT:=
 .alt (Ab) (Aa)
@[simp]def z8:VT:=
 Ys 30 1 3<|.alt (JY) (JX)
@[simp]def z7:VT:=
 .alt (Ac) (z8)
@[simp]def z6:VT:=
 .alt (Ad) (z7)
@[simp]def zZ:VT:=
 Ys 28 1 3<|.alt (Ae) (z6)
@[simp]def zY:VT:=
 V1 23 XW 22<|Ys 24 1 3<|.alt (Pb) (Pa)
@[simp]def zX:VT:=
 Ys 24 1 3<|.alt (J4) (J3)
@[simp]def zW:VT:=
 Ys 26 1 3<|.alt (J0) (JZ)
@[simp]def zV:VT:=
 Ys 28 1 3<|.alt (JY) (JX)
@[simp]def zU:VT:=
 .alt (zW) (zV)
@[simp]def zT:VT:=
 .alt (zX) (zU)
@[simp]def zS:VT:=
 Ys 30 1 3<|.alt (zY) (zT)
@[simp]def zR:VT:=
 .alt (zZ) (zS)
@[simp]def zQ:VT:=
 .alt (Af) (zR)
@[simp]def zP:VT:=
 .alt (Aq) (zQ)
@[simp]def g9z:VT:=
 Ys 22 1 3<|.alt (AG) (zP)
@[simp]def g0A:=[wk 7 0]
@[simp]def g0c:=[wm 33 7,wm 34 6,wn 35 34,wt 36 .lss 33 35]
@[simp]def g1c:=[wm 39 6,wm 40 7,wi 41 1 39 40,wl 42 41,wm 8 42]
@[simp]def g2c:=[wm 43 8,wn 44 43,wc 45 .gtr 44 0,wm 46 45,Ym 47 46 8,U1 48 46 N9 47,yu 49 46 48,wp 50 46 49]
@[simp]def g3c:=[wb 2 false]
@[simp]def g4c:=[wk 9 0]
@[simp]def g5c:=[wm 51 9,wm 52 8,wn 53 52,wt 54 .lss 51 53]
@[simp]def g6c:=[wb 10 false]
@[simp]def g7c:=[wk 11 0]
@[simp]def g8c:=[wm 57 11,wm 58 5,wn 59 58,wt 60 .lss 57 59]
@[simp]def g9c:VT:=
 ym 63 10<|ym 64 63<|V (qm 65 64 5)<|V (qm 66 64 11)<|V (qi 67 64 8 65 66)<|V (Ws 68 64 67 8)<|V (qm 69 64 8)<|V (qm 70 64 9)<|V (qi 71 64 8 69 70)<|V (Ws 72 64 71 8)<|V (og 73 64 false (.eqs false [.i .i64, .i .i64, .i .i64, .i .i64, .b, .i .i64, .s, .b] (T 68) (T 72)))<|vq 74 64 73<|ym 10 74<|.done
@[simp]def g0d:=[wm 61 11,wc 62 .add 61 1,wm 11 62]
@[simp]def g1d:=[wm 75 8,wm 76 9,wi 77 8 75 76,yf 78 2 77,wl 79 78,wc 80 .eql 79 4,wm 81 80,qm 82 81 8,qm 83 81 9,qi 84 81 8 82 83,jf 85 81 2 84,ql 86 81 85,qc 87 81 .eql 86 5,wq 88 81 87,wm 12 88]
@[simp]def g2d:=[wm 89 10,wu 90 89,wm 91 90,qm 92 91 7,qc 93 91 .lss 92 2,qm 94 91 93,Ym 95 94 12,qp 96 91 94 95,wq 97 91 96,wm 98 97,qm 99 98 7,qc 100 98 .eql 99 0,qm 101 98 100,Ym 102 101 8,Ym 103 101 9,Yi 104 101 8 102 103,qf 105 101 2 104,Yl 106 101 105,Yc 107 101 .neq 106 1,qp 108 98 101 107,wq 109 98 108]
@[simp]def g3d:=[wb 2 false]
@[simp]def g4d:VT:=
 ym 110 7<|yc 111 .eql 110 2<|ym 112 111<|V (Ym 113 112 8)<|V (Ym 114 112 9)<|V (Yi 115 112 8 113 114)<|V (qf 116 112 4 115)<|V (qs 117 112 116 3)<|V (Ym 118 112 8)<|V (og 119 112 true (.ia 8 (T 118) (K 0)))<|V (qf 120 112 4 119)<|V (qs 121 112 120 3)<|V (og 122 112 true (.eqs true [.b, .i .i64, .s] (T 117) (T 121)))<|V (Ym 123 112 122)<|V (qm 124 123 8)<|V (qm 125 123 9)<|V (qi 126 123 8 124 125)<|V (jf 127 123 3 126)<|V (ql 128 123 127)<|V (qm 129 123 8)<|V (og 130 123 false (.ia 8 (T 129) (K 0)))<|V (jf 131 123 3 130)<|V (ql 132 123 131)<|V (qt 133 123 .neq 128 132)<|V (yq 134 112 123 133)<|V (Ym 135 112 134)<|V (qm 136 135 9)<|V (qc 137 135 .eql 136 0)<|V (qm 138 135 137)<|V (Ym 139 138 8)<|V (Ym 140 138 9)<|V (Yi 141 138 8 139 140)<|V (qf 142 138 7 141)<|V (Yl 143 138 142)<|V (yu 144 138 143)<|V (qp 145 135 138 144)<|V (yq 146 112 135 145)<|V (Ym 147 112 146)<|V (qm 148 147 9)<|V (qc 149 147 .eql 148 0)<|V (qm 150 147 8)<|V (qm 151 147 9)<|V (qi 152 147 8 150 151)<|V (jf 153 147 2 152)<|V (ql 154 147 153)<|V (qc 155 147 .eql 154 4)<|V (og 156 147 false (.beq true (T 149) (T 155)))<|V (yq 157 112 147 156)<|yp 158 112 157<|.done
@[simp]def g5d:=[wb 2 false]
@[simp]def g6d:=[wm 55 9,wc 56 .add 55 1,wm 9 56]
@[simp]def g7d:=[wm 159 7,wc 160 .eql 159 3,wm 161 160,Ym 162 161 8,yn 163 161 162,Yc 164 161 .gtr 163 0,wp 165 161 164,wm 166 165,Ym 167 166 8,og 168 166 true (.ia 8 (T 167) (K 0)),qf 169 166 2 168,Yl 170 166 169,Yc 171 166 .neq 170 4,wp 172 166 171,wm 173 172,qm 174 173 7,qc 175 173 .eql 174 4,qm 176 173 175,Ym 177 176 8,yn 178 176 177,Yc 179 176 .gtr 178 0,qp 180 173 176 179,qm 181 173 180,Ym 182 181 8,og 183 181 true (.ia 8 (T 182) (K 0)),qf 184 181 2 183,Yl 185 181 184,Yc 186 181 .neq 185 4,qp 187 173 181 186,qm 188 173 187,Ym 189 188 8,og 190 188 true (.ia 8 (T 189) (K 0)),qf 191 188 2 190,Yl 192 188 191,Yc 193 188 .neq 192 5,qp 194 173 188 193,wq 195 173 194]
@[simp]def g8d:=[wb 2 false]
@[simp]def g9d:=[wm 37 7,wc 38 .add 37 1,wm 7 38]
@[simp]def g0e:=[wb 2 true]
@[simp]def g1A:=[wx 1 0,wb 2 false]
@[simp]def g2A:=[w0 12 Ql,wm 3 12]
@[simp]def g3A:=[wm 13 3,wu 14 13]
@[simp]def g4A:=[wb 2 false]
@[simp]def g5A:=[ws 15 1 3,Y1 16 WN 15,wm 4 16]
@[simp]def g6A:=[wm 17 4,wu 18 17]
@[simp]def g7A:=[wb 2 true]
@[simp]def g8A:=[ws 19 1 3,Y1 20 XW 19,wn 21 20,wc 22 .gtr 21 0,wm 5 22]
@[simp]def g9A:=[ws 23 1 3,Y1 24 XC 23,wn 25 24,wc 26 .gtr 25 0,wm 6 26]
@[simp]def g0B:=[ws 27 1 3,Y1 28 Xq 27,wn 29 28,wc 30 .gtr 29 0,wm 7 30]
@[simp]def g1e:=[ws 31 1 3,Y1 32 Xp 31,wn 33 32,wc 34 .gtr 33 0,wm 8 34]
@[simp]def g2e:=[ws 35 1 3,Y1 36 Xc 35,wn 37 36,wc 38 .gtr 37 0,wm 9 38]
@[simp]def g3e:=[wm 39 5,wm 40 39,Ym 41 40 6,yu 42 40 41,wp 43 40 42,wm 44 43,qm 45 44 7,qm 46 44 45,Ym 47 46 8,yu 48 46 47,qp 49 44 46 48,wq 50 44 49,wm 51 50,qm 52 51 8,qm 53 51 52,Ym 54 53 9,yu 55 53 54,qp 56 51 53 55,wq 57 51 56]
@[simp]def g4e:=[wb 2 false]
@[simp]def e6:VT:=
 V1 60 Wc 59<|Ys 61 1 3<|V1 62 SQ 61<|V2 63 Qj 60 62<|ym 58 63<|ve 64 0 58<|ve 65 1 58<|ym 10 64<|ym 11 65<|.done
@[simp]def eZ:VT:=
 Ys 61 1 3<|V1 60 Wc 59<|V1 62 SQ 61<|V2 63 Qj 60 62<|ym 58 63<|ve 64 0 58<|ve 65 1 58<|ym 10 64<|ym 11 65<|.done
@[simp]def g5e:VT:=
 Ys 59 1 3<|.alt (e6) (eZ)
@[simp]def g6e:=[wm 66 11,wm 67 6,wu 68 67,wm 69 68,Ym 70 69 9,yu 71 69 70,wp 72 69 71,oo 73 (.beq false (T 66) (T 72)),wm 2 73]
@[simp]def g1B:=[wx 1 0,wb 2 false]
@[simp]def g2B:=[w0 7 Ql,wm 3 7]
@[simp]def g3B:=[wm 8 3,wu 9 8]
@[simp]def g4B:=[wb 2 false]
@[simp]def g5B:=[ws 10 1 3,Y1 11 WN 10,wm 4 11]
@[simp]def g6B:=[wm 12 4,wu 13 12]
@[simp]def g7B:=[wb 2 true]
@[simp]def g8B:=[ws 14 1 3,Y1 15 Wc 14,wm 5 15]
@[simp]def g9B:=[wk 6 0]
@[simp]def g0C:=[wm 16 6,wm 17 5,wn 18 17,wt 19 .lss 16 18]
@[simp]def g7e:VT:=
 ym 22 5<|ym 23 6<|yi 24 8 22 23<|Yf 25 0 24<|yl 26 25<|ym 27 5<|ym 28 6<|yi 29 8 27 28<|Yf 30 1 29<|yl 31 30<|vt 32 .geq 26 31<|.done
@[simp]def g8e:=[wb 2 true]
@[simp]def g9e:=[wm 20 6,wc 21 .add 20 1,wm 6 21]
@[simp]def g0f:=[ws 33 1 3,Y1 34 XW 33,wn 35 34,wc 36 .eql 35 0,wm 37 36,qs 38 37 1 3,U1 39 37 XC 38,yn 40 37 39,Yc 41 37 .eql 40 0,wp 42 37 41,wm 43 42,qs 44 43 1 3,U1 45 43 Xq 44,yn 46 43 45,Yc 47 43 .eql 46 0,wp 48 43 47,wm 49 48,qs 50 49 1 3,U1 51 49 Xp 50,yn 52 49 51,Yc 53 49 .eql 52 0,wp 54 49 53,wm 55 54,qs 56 55 1 3,U1 57 55 Xc 56,yn 58 55 57,Yc 59 55 .eql 58 0,wp 60 55 59,wm 2 60]
@[simp]def g1C:=[wx 2 0,wb 4 false]
@[simp]def g2C:=[w0 7 Ql,wm 5 7]
@[simp]def g3C:=[wm 8 5,wu 9 8]
@[simp]def g4C:=[wb 4 false]
@[simp]def g5C:=[ws 10 2 3,Y1 11 WN 10,wm 6 11]
@[simp]def g6C:=[wm 12 6,wu 13 12]
@[simp]def g7C:=[wb 4 true]
@[simp]def EN:VT:=
 V (U2 24 21 SP 22 23)<|V (qs 25 21 2 3)<|V (U2 27 21 Qh 25 26)<|V (Yt 28 21 .eql 24 27)<|yp 29 21 28<|ym 4 29<|.done
@[simp]def EM:VT:=
 V (qs 25 21 2 3)<|V (U2 24 21 SP 22 23)<|V (U2 27 21 Qh 25 26)<|V (Yt 28 21 .eql 24 27)<|yp 29 21 28<|ym 4 29<|.done
@[simp]def eY:VT:=
 V2 16 TW 14 15<|Ys 17 2 3<|V2 19 Qi 17 18<|vt 20 .eql 16 19<|ym 21 20<|V (qs 22 21 2 3)<|V (Ym 23 21 1)<|V (Ym 26 21 1)<|.alt (EN) (EM)
@[simp]def eX:VT:=
 Ys 17 2 3<|V2 16 TW 14 15<|V2 19 Qi 17 18<|vt 20 .eql 16 19<|ym 21 20<|V (qs 22 21 2 3)<|V (Ym 23 21 1)<|V (Ym 26 21 1)<|.alt (EN) (EM)
@[simp]def g8C:VT:=
 Ys 14 2 3<|ym 15 1<|ym 18 1<|.alt (eY) (eX)
@[simp]def g9C:=[wx 3 0,wb 6 false]
@[simp]def g0D:=[w0 13 Ql,wm 7 13]
@[simp]def g1D:=[wm 14 7,wu 15 14]
@[simp]def g2D:=[wb 6 false]
@[simp]def g3D:=[ws 16 3 3,Y1 17 WN 16,wm 8 17]
@[simp]def g4D:=[wm 18 8,wu 19 18,wm 20 19,qm 21 20 1,qm 22 20 2,qt 23 20 .gtr 21 22,wq 24 20 23]
@[simp]def g5D:=[wb 6 true]
@[simp]def g6D:=[ws 25 3 3,wm 26 1,Y2 27 TW 25 26,wm 9 27]
@[simp]def g7D:=[ws 28 3 3,wm 29 2,Y2 30 TW 28 29,wm 10 30]
@[simp]def g8D:=[ws 31 3 3,wm 32 1,Y2 33 SP 31 32,wm 11 33]
@[simp]def g1f:=[ws 34 3 3,wm 35 2,Y2 36 SP 34 35,wm 12 36]
@[simp]def g2f:=[wm 37 10,wc 38 .lss 37 0,wm 39 38,qm 40 39 9,qc 41 39 .geq 40 0,qm 42 39 41,Ym 43 42 9,Ym 44 42 10,Yt 45 42 .leq 43 44,qp 46 39 42 45,wq 47 39 46,wm 48 47,Ym 49 48 12,Yc 50 48 .lss 49 0,Ym 51 48 50,qm 52 51 11,qc 53 51 .geq 52 0,qm 54 51 53,Ym 55 54 11,Ym 56 54 12,Yt 57 54 .leq 55 56,qp 58 51 54 57,yq 59 48 51 58,wp 60 48 59,wm 61 60,qs 62 61 3 3,og 63 61 true (.call TW [(T 62),(K 6)]),Yc 64 61 .eql 63 (-1),wp 65 61 64,wm 66 65,qs 67 66 3 3,og 68 66 true (.call SP [(T 67),(K 6)]),Yc 69 66 .eql 68 (-1),wp 70 66 69,wm 6 70]
@[simp]def g9D:=[wb 0 false]
@[simp]def g0E:=[oo 5 (.build [zb,zi,zs] [(1,1,(K 5))]),oo 1 (.alloc [zb,zi,zs]),wo 1 5 3]
@[simp]def g1E:=[wz 2 22]
@[simp]def g2E:=[wm 6 2,oo 7 (.build [zi,zi,zi,zi,zb,zi,zs,zi,zi,zi, .nil 3,zi,zi,zb,zi,zs,zb,zi,zs, .nil 9, .nil 5,zb] [(0,1,(K 1)),(1,1,(K 1)),(2,1,(K 3))]),oo 8 (.build [zi,zi,zi,zi,zb,zi,zs,zi,zi,zi, .nil 3,zi,zi,zb,zi,zs,zb,zi,zs, .nil 9, .nil 5,zb] [(0,1,(K 2)),(1,1,(K 1)),(2,1,(K 3))]),oo 9 (.lit 22 2 [(0,(T 7)),(1,(T 8))]),oo 10 (.app 22 248 (T 6) (T 9)),wm 2 10]
@[simp]def g3E:=[wm 11 2,ws 12 1 3,oo 13 (.build [zi,zi,zi,zi,zb,zi,zs,zi,zi,zi, .nil 3,zi,zi,zb,zi,zs,zb,zi,zs, .nil 9, .nil 5,zb] [(0,1,(K 1)),(1,1,(K 2)),(4,3,(T 12))]),ws 14 1 3,oo 15 (.build [zi,zi,zi,zi,zb,zi,zs,zi,zi,zi, .nil 3,zi,zi,zb,zi,zs,zb,zi,zs, .nil 9, .nil 5,zb] [(0,1,(K 2)),(1,1,(K 2)),(4,3,(T 14)),(21,1,(B true))]),oo 16 (.lit 22 2 [(0,(T 13)),(1,(T 15))]),oo 17 (.app 22 248 (T 11) (T 16)),wm 2 17]
@[simp]def g4E:=[wm 18 2,ws 19 1 3,ws 20 1 3,oo 21 (.lit 3 1 [(0,(T 20))]),oo 22 (.build [zi,zi,zi,zi,zb,zi,zs,zi,zi,zi, .nil 3,zi,zi,zb,zi,zs,zb,zi,zs, .nil 9, .nil 5,zb] [(0,1,(K 1)),(1,1,(K 3)),(4,3,(T 19)),(9,1,(K 1)),(10,1,(T 21))]),oo 23 (.build [zi,zi,zi,zi,zb,zi,zs,zi,zi,zi, .nil 3,zi,zi,zb,zi,zs,zb,zi,zs, .nil 9, .nil 5,zb] [(0,1,(K 1)),(1,1,(K 5))]),oo 24 (.lit 22 2 [(0,(T 22)),(1,(T 23))]),oo 25 (.app 22 248 (T 18) (T 24)),wm 2 25]
@[simp]def g5E:=[wm 26 2,ws 27 1 3,oo 28 (.build [zi,zi,zi,zi,zb,zi,zs,zi,zi,zi, .nil 3,zi,zi,zb,zi,zs,zb,zi,zs, .nil 9, .nil 5,zb] [(0,1,(K 2)),(1,1,(K 3)),(4,3,(T 27)),(9,1,(K 1))]),oo 29 (.build [zi,zi,zi,zi,zb,zi,zs,zi,zi,zi, .nil 3,zi,zi,zb,zi,zs,zb,zi,zs, .nil 9, .nil 5,zb] [(0,1,(K 2)),(1,1,(K 5))]),oo 30 (.lit 22 2 [(0,(T 28)),(1,(T 29))]),oo 31 (.app 22 248 (T 26) (T 30)),wm 2 31]
@[simp]def g6E:=[oo 32 (.lit 1 1 [(0,(B false))]),oo 33 (.build [.nil 1] [(0,1,(T 32))]),oo 34 (.lit 1 1 [(0,(T 33))]),wm 35 2,ws 36 1 3,oo 37 (.lit 1 2 [(0,(K 1)),(1,(K 2))]),oo 38 (.build [zi,zb,zi,zs, .nil 1] [(1,3,(T 36)),(4,1,(T 37))]),oo 39 (.lit 5 1 [(0,(T 38))]),oo 40 (.build [.nil 1, .nil 22, .nil 5] [(0,1,(T 34)),(1,1,(T 35)),(2,1,(T 39))]),oo 3 (.alloc [.nil 1, .nil 22, .nil 5]),wo 3 40 3]
@[simp]def g7E:=[ws 41 3 3,Y1 42 Xq 41,wm 4 42]
@[simp]def g8E:=[ws 43 3 3,Y1 44 XW 43,wn 45 44,wc 46 .eql 45 0,wm 47 46,qs 48 47 3 3,U1 49 47 XC 48,yn 50 47 49,Yc 51 47 .eql 50 0,wp 52 47 51,wm 53 52,qs 54 53 3 3,U1 55 53 Xp 54,yn 56 53 55,Yc 57 53 .eql 56 2,wp 58 53 57,wm 59 58,Ym 60 59 4,yn 61 59 60,Yc 62 59 .eql 61 2,wp 63 59 62,wm 64 63,Ym 65 64 4,og 66 64 true (.ia 8 (T 65) (K 0)),qf 67 64 0 66,Yl 68 64 67,Yc 69 64 .eql 68 2,wp 70 64 69,wm 71 70,Ym 72 71 4,og 73 71 true (.ia 8 (T 72) (K 0)),qf 74 71 2 73,Yl 75 71 74,Yc 76 71 .eql 75 4,wp 77 71 76,wm 78 77,Ym 79 78 4,og 80 78 true (.ia 8 (T 79) (K 1)),qf 81 78 2 80,Yl 82 78 81,Yc 83 78 .eql 82 1,wp 84 78 83,wm 85 84,qs 86 85 3 3,og 87 85 true (.call TW [(T 86),(K 1)]),Yc 88 85 .eql 87 (-1),wp 89 85 88,wm 0 89]
@[simp]def g9E:=[wx 1 0,wb 2 false]
@[simp]def g0F:=[ws 4 1 3,Y1 5 WN 4,wm 3 5]
@[simp]def g1F:=[wm 6 3,wm 7 6,qs 8 7 1 3,U1 9 7 Wc 8,yn 10 7 9,Yc 11 7 .leq 10 14,wp 12 7 11,wm 2 12]
@[simp]def g2F:=[wx 1 0,wz 2 8]
@[simp]def g3F:=[ws 3 1 3,Y1 4 XD 3,oo 5 (.lit 1 1 [(0,(K 1))]),oo 6 (.lit 1 1 [(0,(K 1))]),Y3 7 SN 4 5 6,wm 2 7]
@[simp]def eW:=[wx 1 0,wz 2 8]
@[simp]def eV:=[ws 3 1 3,oo 4 (.call Qd [(T 3),(K 2),(K 2)]),wm 2 4]
def a5o:Z9:=(QR eW (QR eV .ret))
theorem eU:ZG prog Qk=some (5,a5o,[.tmp 2]):=by kernel_rfl
@[simp]def g4F:=[wx 1 0,wz 2 8]
@[simp]def g5F:=[oo 4 (.lit 1 3 [(0,(K 1)),(1,(K 2)),(2,(K 3))]),wm 3 4]
@[simp]def g6F:=[ws 5 1 3,Y1 6 XD 5,wm 7 3,wm 8 3,Y3 9 SN 6 7 8,wm 2 9]
@[simp]def eT:=[wx 1 0,wz 2 8]
@[simp]def eR:=[ws 3 1 3,oo 4 (.call Qd [(T 3),(K 14),(K 14)]),wm 2 4]
def a7o:Z9:=(QR eT (QR eR .ret))
theorem eQ:ZG prog Oc=some (5,a7o,[.tmp 2]):=by kernel_rfl
@[simp]def g7F:=[wx 1 0,wz 2 8]
@[simp]def g8F:=[ws 8 1 3,Y1 9 XD 8,wm 3 9]
@[simp]def g9F:=[wm 10 3,wn 11 10,wk 12 0]
@[simp]def g0G:=[wt 13 .lss 12 11]
@[simp]def g1G:=[wi 14 8 10 12,ws 15 14 8,oo 5 (.alloc [zi,zi,zi,zi,zb,zi,zs,zb]),wo 5 15 8]
@[simp]def g2G:=[yf 16 2 5,wl 17 16,wc 18 .neq 17 4,wm 19 18,jf 20 19 7 5,ql 21 19 20,Yu 22 19 21,wq 23 19 22]
@[simp]def g3G:=[wm 24 3,Y1 25 f8N 24,oo 26 (.VO f9N [] [(T 5)]),Y2 27 N6 25 26,wm 6 27]
@[simp]def g4G:=[wm 28 6,oo 29 (.lit 1 1 [(0,(K 4))]),oo 30 (.lit 1 1 [(0,(K 1))]),Y3 31 SN 28 29 30,wm 7 31]
@[simp]def g5G:=[wm 32 7,wn 33 32,wc 34 .gtr 33 0]
@[simp]def g6G:=[wm 35 7,wm 2 35]
@[simp]def g3f:=[wc 36 .add 12 1,wm 12 36]
@[simp]def g4f:=[wz 2 8]
@[simp]def g7G:=[wx 1 0,wz 2 8]
@[simp]def g8G:=[ws 9 1 3,Y1 10 Wc 9,wm 3 10]
@[simp]def g9G:=[wk 4 0]
@[simp]def g0H:=[wm 11 4,wm 12 3,wn 13 12,wt 14 .lss 11 13]
@[simp]def g1H:=[wm 17 3,wm 18 4,wi 19 8 17 18,ws 20 19 8,oo 5 (.alloc [zi,zi,zi,zi,zb,zi,zs,zb]),wo 5 20 8]
@[simp]def g2H:=[yf 21 2 5,wl 22 21,wc 23 .neq 22 4,wm 24 23,jf 25 24 7 5,ql 26 24 25,Yu 27 24 26,wq 28 24 27]
@[simp]def g3H:=[wz 6 8]
@[simp]def g4H:=[wm 29 6,ws 30 5 8,oo 31 (.lit 8 1 [(0,(T 30))]),oo 32 (.app 8 72 (T 29) (T 31)),wm 6 32]
@[simp]def g5H:=[wk 7 0]
@[simp]def g6H:=[wm 33 7,wm 34 3,wn 35 34,wt 36 .lss 33 35]
@[simp]def g5f:VT:=
 ym 39 3<|ym 40 7<|yi 41 8 39 40<|Yf 42 2 41<|yl 43 42<|yc 44 .eql 43 1<|ym 45 44<|V (Ym 46 45 3)<|V (Ym 47 45 7)<|V (Yi 48 45 8 46 47)<|V (qf 49 45 3 48)<|V (Yl 50 45 49)<|V (qf 51 45 3 5)<|V (Yl 52 45 51)<|V (Yt 53 45 .eql 50 52)<|yp 54 45 53<|ym 55 54<|V (Ym 56 55 3)<|V (Ym 57 55 7)<|V (Yi 58 55 8 56 57)<|V (qf 59 55 4 58)<|V (qs 60 55 59 3)<|V (qf 61 55 4 5)<|V (qs 62 55 61 3)<|V (og 63 55 true (.eqs false [.b, .i .i64, .s] (T 60) (T 62)))<|yp 64 55 63<|.done
@[simp]def g6f:=[wm 65 6,wm 66 3,wm 67 7,wi 68 8 66 67,ws 69 68 8,oo 70 (.lit 8 1 [(0,(T 69))]),oo 71 (.app 8 72 (T 65) (T 70)),wm 6 71]
@[simp]def g7f:=[wm 37 7,wc 38 .add 37 1,wm 7 38]
@[simp]def g8f:=[wm 72 6,oo 73 (.build [zi,zb,zi,zb,zi,zs,zb] [(0,1,(K 16))]),oo 74 (.build [zi,zb,zi,zb,zi,zs,zb] [(0,1,(K 2))]),Y3 75 TV 72 73 74,wm 8 75]
@[simp]def g9f:=[wm 76 8,wn 77 76,wc 78 .gtr 77 0]
@[simp]def g0g:=[wm 79 8,wm 2 79]
@[simp]def g1g:=[wm 15 4,wc 16 .add 15 1,wm 4 16]
@[simp]def g2g:=[wz 2 8]
@[simp]def g7H:=[wx 1 0,wz 2 8]
@[simp]def g8H:=[ws 3 1 3,Y1 4 XD 3,oo 5 (.lit 1 1 [(0,(K 4))]),w0 6 oF,Y3 7 SN 4 5 6,wm 2 7]
@[simp]def g9H:=[wx 1 0,wz 2 8]
@[simp]def g0I:=[ws 3 1 3,oo 4 (.call Qd [(T 3),(K 16),(K 62)]),wm 2 4]
@[simp]def g1I:=[wx 1 0,wz 2 8]
@[simp]def g2I:=[ws 3 1 3,Y1 4 XD 3,oo 5 (.lit 1 2 [(0,(K 4)),(1,(K 5))]),w0 6 oF,Y3 7 SN 4 5 6,wm 2 7]
@[simp]def eN:=[wx 1 0,wz 2 8]
@[simp]def eM:=[ws 3 1 3,oo 4 (.call Qd [(T 3),(K 48),(K 62)]),wm 2 4]
def a3p:Z9:=(QR eN (QR eM .ret))
theorem eL:ZG prog Oa=some (5,a3p,[.tmp 2]):=by kernel_rfl
@[simp]def eK:=[wx 2 0,wk 4 0]
@[simp]def eJ:=[ws 5 2 3,wm 6 1,oo 7 (.call Lj [(T 5),(T 6),(.func Li)]),wm 4 7]
def a4p:Z9:=(QR eK (QR eJ .ret))
theorem l9:ZG prog TW=some (8,a4p,[.tmp 4]):=by kernel_rfl
@[simp]def eH:=[wx 2 0,wk 4 0]
@[simp]def eG:=[ws 5 2 3,wm 6 1,oo 7 (.call Lh [(T 5),(T 6),(K 1)]),wm 4 7]
def a5p:Z9:=(QR eH (QR eG .ret))
theorem mc:ZG prog Qi=some (8,a5p,[.tmp 4]):=by kernel_rfl
@[simp]def eF:=[wx 2 0,wk 4 0]
@[simp]def eE:=[ws 5 2 3,wm 6 1,oo 7 (.call Lj [(T 5),(T 6),(.func Lg)]),wm 4 7]
def a6p:Z9:=(QR eF (QR eE .ret))
theorem l8:ZG prog SP=some (8,a6p,[.tmp 4]):=by kernel_rfl
@[simp]def eD:=[wx 2 0,wk 4 0]
@[simp]def eC:=[ws 5 2 3,wm 6 1,oo 7 (.call Lh [(T 5),(T 6),(K 2)]),wm 4 7]
def a7p:Z9:=(QR eD (QR eC .ret))
theorem ma:ZG prog Qh=some (8,a7p,[.tmp 4]):=by kernel_rfl
@[simp]def eB:=[wx 3 0,wz 6 8]
@[simp]def ez:=[ws 7 3 3,Y1 8 Wc 7,wm 9 1,oo 10 (.build [zi,zb,zi,zb,zi,zs,zb] [(0,1,(T 9))]),wm 11 2,oo 12 (.build [zi,zb,zi,zb,zi,zs,zb] [(0,1,(T 11))]),Y3 13 TV 8 10 12,wm 6 13]
def c7o:Z9:=(QR eB (QR ez .ret))
theorem ey:ZG prog Qd=some (14,c7o,[.tmp 6]):=by kernel_rfl
@[simp]def g3I:=[wx 2 0,wb 3 false]
@[simp]def g4I:=[ws 4 2 8,ws 5 1 8,oo 6 (.eqs true [.i .i64, .i .i64, .i .i64, .i .i64, .b, .i .i64, .s, .b] (T 4) (T 5)),wm 7 6,qf 8 7 2 2,Yl 9 7 8,Yc 10 7 .neq 9 1,Ym 11 7 10,jf 12 11 3 2,ql 13 11 12,jf 14 11 3 1,ql 15 11 14,qt 16 11 .neq 13 15,yq 17 7 11 16,Ym 18 7 17,jf 19 18 4 2,Ws 20 18 19 3,jf 21 18 4 1,Ws 22 18 21 3,og 23 18 false (.eqs true [.b, .i .i64, .s] (T 20) (T 22)),yq 24 7 18 23,wp 25 7 24,wm 3 25]
@[simp]def g5I:=[wz 0 1]
@[simp]def g6I:=[oo 1 (.lit 1 5 [(0,(K 1)),(1,(K 2)),(2,(K 3)),(3,(K 4)),(4,(K 5))]),wm 0 1]
@[simp]def ew:=[wx 3 0,wx 5 2,oo 6 (.alloc [zi])]
@[simp]def er:=[ws 15 3 3,Y1 16 U0 15,oo 7 (.alloc [.iv (.v (.pointer none))]),wo 7 16 1]
@[simp]def eo:=[wl 17 7,oo 18 (.peq false (T 17) (.const (.pointer none)))]
@[simp]def en:=[on (.st (T 6) (K (-1)) 1)]
@[simp]def ek:=[oo 19 (.XB (false,[.i .i64],false)),oo 8 (.alloc [.iv (.v (.map none))]),wo 8 19 1]
@[simp]def ej:=[wl 20 7,Y1 21 N8 20,wn 22 21,wk 23 0]
@[simp]def ei:=[wt 24 .lss 23 22]
@[simp]def eh:=[wi 25 1 21 23,wl 26 25,wm 10 26]
@[simp]def eg:=[wl 27 8,wm 28 10,on (.Yy (false,[.i .i64],false) (T 27) (T 28) (K 1))]
@[simp]def ef:=[wc 29 .add 23 1,wm 23 29]
def JW:Z9:=
 (QR ei (Q (CX 24 0) (Q (.block 1 (QR eh (R eg))) (R ef))))
@[simp]def zO:=[yf 30 1 3,wl 31 30,wn 32 31,wk 33 0]
@[simp]def zN:=[wt 34 .lss 33 32]
@[simp]def zM:=[wm 35 33,wi 36 22 31 33,ws 37 36 22,oo 11 (.alloc [zi]),oo 12 (.alloc [zi,zi,zi,zi,zb,zi,zs,zi,zi,zi, .nil 3,zi,zi,zb,zi,zs,zb,zi,zs, .nil 9, .nil 5,zb]),wo 11 35 1,wo 12 37 22]
@[simp]def zL:=[wl 38 8,yf 39 0 12,wl 40 39,oo 41 (.UE (false,[.i .i64],false) [zi] (T 38) (T 40) false),wc 42 .eql 41 0,wm 43 42,ql 44 43 7,jf 45 43 0 12,ql 46 43 45,X2 47 43 YY 44 46,qm 48 43 1,qt 49 43 .lss 47 48,wq 50 43 49]
@[simp]def zK:=[ws 51 12 22,Y1 52 K6 51]
@[simp]def zJ:=[oo 13 (.alloc [zb,zi,zs]),wo 13 53 3]
@[simp]def zI:=[oo 14 (.alloc [zi,zi]),wo 14 54 2]
@[simp]def zH:=[ws 55 14 2,oo 56 (.build [zi,zi] []),oo 57 (.eqs true [.i .i64, .i .i64] (T 55) (T 56)),wm 58 57,Yl 59 58 5,Yl 60 58 7,Yl 61 58 8,qs 62 58 12 22,qs 63 58 13 3,qs 64 58 14 2,og 65 58 true (.Zc (T 59) [(T 60),(T 61),(T 62),(T 63),(T 64)]),wp 66 58 65]
@[simp]def zG:=[wl 67 11,wo 6 67 1]
def RT:Z9:=
 (QR zJ (R zI))
def RS:Z9:=
 (.block 5 (QR zH (CR 66 zG)))
@[simp]def zF:=[wc 68 .add 33 1,wm 33 68]
def JV:Z9:=
 (QR zN (Q (CX 34 2) (Q (.block 3 (QR zM (Q (QR zL (CT 50 (.exit 3) .skip)) (QR zK (.block 4 (.QB (T 52) [53,54] RT RS)))))) (R zF))))
@[simp]def zD:=[on (.st (T 6) (K (-1)) 1)]
def PV:Z9:=(QR ew (QR er (Q (QR eo (CR 18 en)) (QR ek (Q (QR ej (.block 0 (.loop JW))) (Q (QR zO (.block 2 (.loop JV))) (QR zD .ret)))))))
theorem ea:ZG prog Lj=some (69,PV,[.cell 6 none]):=by kernel_rfl
@[simp]def dZ:=[wx 7 2,wx 8 3,wx 9 4,wb 10 false]
@[simp]def dY:=[wm 11 1,yf 12 0 9,wl 13 12,oo 14 (.UE (false,[.i .i64],false) [zi] (T 11) (T 13) false),wc 15 .eql 14 0,wm 10 15]
def a3q:Z9:=(QR dZ (QR dY .ret))
theorem dX:ZG prog Li=some (16,a3q,[.tmp 10]):=by kernel_rfl
@[simp]def dW:=[wx 3 0,wk 6 0]
@[simp]def dV:=[ws 12 3 3,Y1 13 U4 12,wm 7 13]
@[simp]def dU:=[wm 14 7,wu 15 14]
@[simp]def dT:=[wk 6 (-1)]
@[simp]def dS:=[wk 8 0]
@[simp]def dR:=[wm 16 8,yf 17 1 3,wl 18 17,wn 19 18,wt 20 .lss 16 19]
@[simp]def dQ:=[yf 23 1 3,wl 24 23,wm 25 8,wi 26 22 24 25,ws 27 26 22,oo 9 (.alloc [zi,zi,zi,zi,zb,zi,zs,zi,zi,zi, .nil 3,zi,zi,zb,zi,zs,zb,zi,zs, .nil 9, .nil 5,zb]),wo 9 27 22]
@[simp]def dP:=[ws 28 3 3,yf 29 0 9,wl 30 29,Y2 31 Uz 28 30,wm 10 31]
@[simp]def dO:=[wm 32 10,wu 33 32,wm 34 33,Ws 35 34 3 3,jf 36 34 0 9,ql 37 34 36,X2 38 34 Uy 35 37,qm 39 34 1,qt 40 34 .lss 38 39,wq 41 34 40]
@[simp]def dN:=[yf 42 1 9,wl 43 42,wc 44 .eql 43 2,wm 45 44,qs 46 45 3 3,qs 47 45 9 22,qf 48 45 4 9,qs 49 45 48 3,qf 50 45 7 9,qs 51 45 50 2,Ym 52 45 2,u5 53 45 NY 46 47 49 51 52,wp 54 45 53]
@[simp]def zC:=[wm 55 8,wm 6 55]
@[simp]def zB:=[wk 11 0]
@[simp]def zA:=[wm 56 11,yf 57 20 9,wl 58 57,wn 59 58,wt 60 .lss 56 59,wm 61 60,qf 62 61 1 9,Yl 63 61 62,Yc 64 61 .eql 63 4,wp 65 61 64]
@[simp]def zz:VT:=
 Ys 68 3 3<|Ys 69 9 22<|Yf 70 20 9<|yl 71 70<|ym 72 11<|yi 73 5 71 72<|Yf 74 0 73<|Ys 75 74 3<|Yf 76 20 9<|yl 77 76<|ym 78 11<|yi 79 5 77 78<|Yf 80 3 79<|Ys 81 80 2<|ym 82 2<|j5 83 NY 68 69 75 81 82<|.done
@[simp]def zy:=[wm 84 8,wm 6 84]
@[simp]def zx:=[wm 66 11,wc 67 .add 66 1,wm 11 67]
def Vx:Z9:=
 (Q (QR zA (CX 65 2)) (Q (.block 3 (Q (.any zz) (CR 83 zy))) (R zx)))
@[simp]def zw:=[wm 21 8,wc 22 .add 21 1,wm 8 22]
def KM:Z9:=
 (Q (QR dR (CX 20 0)) (Q (.block 1 (QR dQ (QR dP (Q (QR dO (CT 41 (.exit 1) .skip)) (Q (QR dN (CR 54 zC)) (QR zB (.block 2 (.loop Vx)))))))) (R zw)))
@[simp]def zu:=[wk 6 (-1)]
def c8o:Z9:=(QR dW (QR dV (Q (QR dU (CR 15 dT)) (Q (QR dS (.block 0 (.loop KM))) (QR zu .ret)))))
theorem me:ZG prog Lh=some (85,c8o,[.tmp 6]):=by kernel_rfl
@[simp]def dM:=[wx 7 2,wx 8 3,wx 9 4,wb 10 false]
@[simp]def dL:=[wm 14 0,yf 15 3 7,wl 16 15,ws 17 8 3,yf 18 0 9,wl 19 18,yf 20 1 9,wl 21 20,wc 22 .add 21 1,oo 23 (.build [zi,zi] [(0,1,(T 19)),(1,1,(T 22))]),Y4 24 N5 14 16 17 23,wm 13 24,we 25 0 13,we 26 1 13,wm 11 25,wm 12 26]
@[simp]def dK:=[yf 27 0 9,wl 28 27,yf 29 0 7,wl 30 29,wt 31 .neq 28 30,wm 32 31,Ym 33 32 12,wp 34 32 33,wm 10 34]
def a5q:Z9:=(QR dM (QR dL (QR dK .ret)))
theorem dJ:ZG prog Lg=some (35,a5q,[.tmp 10]):=by kernel_rfl
@[simp]def dI:=[wx 1 0,oo 2 (.QH (.const .nilFunc))]
@[simp]def dH:=[oo 3 (.VO Ry [] [(T 1)]),wm 2 3]
def Nk:Z9:=(QR dI (QR dH .ret))
theorem dG:ZG prog K6=some (4,Nk,[.tmp 2]):=by kernel_rfl
@[simp]def dF:=[wx 5 0,wx 6 1,wx 7 2,wx 8 3,wb 10 false]
@[simp]def dE:=[oo 13 (.build [zi,zi] []),oo 11 (.alloc [zi,zi]),wo 11 13 2]
@[simp]def dD:=[ws 14 8 2,ws 15 11 2,oo 16 (.eqs false [.i .i64, .i .i64] (T 14) (T 15))]
@[simp]def dC:=[wb 10 false]
@[simp]def dB:=[wm 17 4,wc 18 .eql 17 1]
@[simp]def dA:=[ws 19 5 3,yf 20 0 8,wl 21 20,Y2 22 Uz 19 21,wu 23 22,wm 10 23]
@[simp]def dz:=[ws 24 5 3,yf 25 1 5,wl 26 25,wn 27 26,yf 28 0 8,wl 29 28,yf 30 3 6,wl 31 30,ws 32 7 3,Y5 33 Wa 24 27 29 31 32,wm 12 33]
@[simp]def dy:=[yf 34 0 8,wl 35 34,yf 36 0 6,wl 37 36,wt 38 .neq 35 37,wm 39 38,qf 40 39 1 8,Yl 41 39 40,Ym 42 39 12,Yt 43 39 .neq 41 42,wp 44 39 43,wm 10 44]
def c9o:Z9:=(QR dF (QR dE (Q (QR dD (CR 16 dC)) (Q (QR dB (CR 18 dA)) (QR dz (QR dy .ret))))))
theorem mf:ZG prog NY=some (45,c9o,[.tmp 10]):=by kernel_rfl
@[simp]def dx:=[yf 5 1 1,wl 6 5,wc 7 .eql 6 2]
@[simp]def dw:=[wm 8 0,yf 9 4 1,ws 10 9 3,yf 11 7 1,ws 12 11 2,oo 13 (.Zc (T 8) [(T 10),(T 12)])]
@[simp]def dv:=[yf 14 1 1,wl 15 14,wc 16 .neq 15 4]
@[simp]def du:=[yf 17 20 1,wl 18 17,wn 19 18,wk 20 0]
@[simp]def dt:=[wt 21 .lss 20 19]
@[simp]def dr:=[wi 22 5 18 20,ws 23 22 5,oo 4 (.alloc [zb,zi,zs,zi,zi]),wo 4 23 5]
@[simp]def dq:=[wm 24 0,yf 25 0 4,ws 26 25 3,yf 27 3 4,ws 28 27 2,oo 29 (.Zc (T 24) [(T 26),(T 28)]),wu 30 29]
@[simp]def dp:=[wc 31 .add 20 1,wm 20 31]
def EL:Z9:=
 (QR dt (Q (CX 21 0) (Q (.block 1 (QR dr (QR dq (CT 30 .ret .skip)))) (R dp))))
def a8q:Z9:=(Q (QR dx (CT 7 (R dw) .skip)) (Q (QR dv (CT 16 .ret .skip)) (QR du (.block 0 (.loop EL)))))
theorem dn:ZG prog Ry=some (32,a8q,[]):=by kernel_rfl
theorem d3p{h:Hs}(hm:h.T3):(XS h).length<=2^29:=by
 by_cases hw:Zo h
 ·unfold XS;rw[if_pos hw];have h1:=kF (es:=ML h) (l:=[]);have h2:=d1x hw hm;rw[c2i]at h1;omega
 ·rw[Dw hw];decide
section
variable{h:Hs}(ZY:h.Ok)(Xs:h.Rg)(hm:h.T3)
include ZY hm
set_option maxHeartbeats 2000000
theorem d4p{bf br:Int}{fs rs:List Int}(hf:Bk bf fs)(hr:Bk br rs):ZX prog false Qd [h.av,vi bf,vi br] [] (.iv (ZW (Zh (XS h) fs rs))) []:=by
 have g1:=d1W ZY hm;have g2:=b0K (l:=XS h) hf hr (d3p hm);refine Te ey (by simp) (by decide) ?_;simp-dsimp[c7o,Hs.av];refine Y6 g1 rfl (by simp[Hs.av]) (by simp[Hs.av]) (by simp) (by simp) ?_;simp-dsimp;refine Y6 g2 rfl (by simp[ZW,Up]) (by simp[Up]) (by simp) (by simp) ?_;simp-dsimp;exact⟨[3],by simp[Yz,AV.Xt]⟩
theorem d5p:ZX prog false Qk [h.av] [] (.iv (ZW (Zh (XS h) [1] [1]))) []:=by
 refine Te eU (by simp) (by decide) ?_;simp-dsimp[a5o,Hs.av];refine Y6 (d4p ZY hm .ww .ww) rfl (by simp[Hs.av]) (by simp[Hs.av]) (by simp) (by simp) ?_;simp-dsimp;exact⟨[1],by simp[Yz,AV.Xt]⟩
theorem d6p:ZX prog false Oc [h.av] [] (.iv (ZW (Zh (XS h) [1,2,3] [1,2,3]))) []:=by
 refine Te eQ (by simp) (by decide) ?_;simp-dsimp[a7o,Hs.av];refine Y6 (d4p ZY hm .mh .mh) rfl (by simp[Hs.av]) (by simp[Hs.av]) (by simp) (by simp) ?_;simp-dsimp;exact⟨[1],by simp[Yz,AV.Xt]⟩
theorem d7p:ZX prog false Oa [h.av] [] (.iv (ZW (Zh (XS h) [4,5] [1,2,3,4,5]))) []:=by
 refine Te eL (by simp) (by decide) ?_;simp-dsimp[a3p,Hs.av];refine Y6 (d4p ZY hm .WR .any) rfl (by simp[Hs.av]) (by simp[Hs.av]) (by simp) (by simp) ?_;simp-dsimp;exact⟨[1],by simp[Yz,AV.Xt]⟩
end
noncomputable def XQ(h:Hs)(B:Eg->Int->Int->Bool):List Eg:=(XS h).filter fun e=>B e (Yb h.events e.Z4) (Yb h.events e.to)
theorem d4f(h:Hs)(B:Eg->Int->Int->Bool):NH (fun e=> !B e (Yb h.events e.Z4) (Yb h.events e.to)) (XS h)=XQ h B:=by
 unfold NH XQ;simp
theorem d5f(h:Hs)(B:Eg->Int->Int->Bool):(XQ h B).length<=(XS h).length:=a0V _ _
theorem d6f{h:Hs}(ZY:h.Ok)(Xs:h.Rg)(hm:h.T3){g:FuncId}(Tp:XV prog g=true){B:Eg->Int->Int->Bool}(hg:∀e a b,ZX prog true g [e.av,vi a,vi b] [] (vb (B e a b)) []):
 ZX prog false Lf [h.av, .fn g [] []] [] (.iv (ZW (XQ h B))) []:=by
 have hlen:=d3p hm
 have XM:h.events.length<2^40:=by have:=hm.1;omega
 refine ZX.ofFn ?_
 obtain⟨bk,hR,Iq⟩:∃bk:IV,ZX prog false U0 [h.av] [] (.iv bk) []/\∃js:List Eg,(XQ h B++js).length=(XS h).length∧
  ZX prog false N6 [.sl 9 8 0 (XS h).length, .fn NW [] [.val (.pt [nX g]), .val (.pt [bk])]] [(9, .list 8 (ZM (XS h)))] (.sl 9 8 0 (XQ h B).length) [(9, .list 8 (ZM (XQ h B++js)))]:=by
  rcases e6s ZY XM with⟨hw,hR⟩|⟨hw,hR⟩
  ·obtain⟨js,h1,h2⟩:=b5v (XS h) (by omega) [.pt [nX g], .pt [Yv h.events h.order]] b5S (fun e=> !B e (Yb h.events e.Z4) (Yb h.events e.to)) fun e _=>b0T Tp hg h.events h.order e
   rw[d4f]at h1 h2;exact⟨_,hR,js,h1,h2.Zl (Ren.Xe [(1000,9)]) rfl⟩
  ·have he:=Dw hw
   obtain⟨js,h1,h2⟩:=b5v (XS h) (by omega) [.pt [nX g], .pt [.v (.pointer none)]] b5S (fun e=> !B e (Yb h.events e.Z4) (Yb h.events e.to)) fun e hx=>by rw[he]at hx;cases hx
   rw[d4f]at h1 h2;exact⟨_,hR,js,h1,h2.Zl (Ren.Xe [(1000,9)]) rfl⟩
 obtain⟨js,SJ,Iq⟩:=Iq;have g1:=b2A ZY Xs hm 9;refine Te fS (by simp) (by decide) ?_;simp-dsimp[Nn,Hs.av];refine Y6 hR rfl (by simp[Hs.av]) (by simp[Hs.av]) (by simp) (by simp) ?_;simp-dsimp;refine e1x g1 (by decide) (by simp[Hs.av]) (by simp[Hs.av]) ?_;simp-dsimp;refine d1u (Sg [3,5] (by decide) _) ?_
 refine T6 Iq rfl (by simp) (by simp) (by simp) (by simp) (by simp) (by simp only[a6L,a5L,and_true];exact⟨_,rfl,kE (by simp at SJ⊢;omega)⟩) (by simp) ?_
 have T7:a1V (XQ h B).length (ZM (XQ h B++js))=ZM (XQ h B):=by simp[ZM]
 generalize XQ h B=G at*;simp-dsimp;exact⟨[2,3,5,9],by simp[Yz,AV.Xt,T7,ZW]⟩
theorem CL{h:Hs}(ZY:h.Ok)(Xs:h.Rg)(hm:h.T3):ZX prog false Wb [h.av] [] (.iv (ZW (XQ h Zt))) []:=by
 have g1:=d6f ZY Xs hm b3S b1S;refine Te hM (by simp) (by decide) ?_;simp-dsimp[a2s,Hs.av];refine Y6 g1 rfl (by simp[Hs.av]) (by simp[Hs.av]) (by simp) (by simp) ?_;simp-dsimp;exact⟨[1],by simp[Yz,AV.Xt]⟩
theorem d8f{h:Hs}(ZY:h.Ok)(Xs:h.Rg)(hm:h.T3):ZX prog false Qe [h.av] [] (.iv (ZW (XQ h Uf))) []:=by
 have g1:=d6f ZY Xs hm b4S b2S;refine Te gH (by simp) (by decide) ?_;simp-dsimp[a4s,Hs.av];refine Y6 g1 rfl (by simp[Hs.av]) (by simp[Hs.av]) (by simp) (by simp) ?_;simp-dsimp;exact⟨[1],by simp[Yz,AV.Xt]⟩
theorem d9f{h:Hs}(ZY:h.Ok)(Xs:h.Rg)(hm:h.T3):ZX prog false Qf [h.av] [] (.iv (ZW (Zh (XQ h Zt) [1,2,3,4,5] [1,2,3,4,5]))) []:=by
 have g1:=CL ZY Xs hm;have g2:=b6T (l:=XQ h Zt) (by have:=d5f h Zt;have:=d3p hm;omega) (fs:=[1,2,3,4,5]) (rs:=[1,2,3,4,5]) (by decide) (by decide);refine Te iA (by simp) (by decide) ?_;simp-dsimp[a0s,Hs.av];refine Y6 g1 rfl (by simp[Hs.av]) (by simp[Hs.av]) (by simp) (by simp) ?_;simp-dsimp
 refine Y6 g2 rfl (by simp[ZW,YI,YW]) (by simp) (by simp) (by simp) ?_;simp-dsimp;exact⟨[1],by simp[Yz,AV.Xt]⟩
end Go.Rt
end

section
namespace Go.Vm
def nj(t j:Nat)(x:IV)(s:St):Prop:=∃D,EndC D t j [x] s
theorem e6k{P:Program}{f:FuncId}{args:List AV}{n t:Nat}{c:Z9}(j:Nat)(x:IV)(hf:ZG P f=some (n,c,[.cell t none]))
 (YZ:args.length<=n) (hn:n<=999) (h:X7 P c ⟨SR 0 args,[]⟩ ⟨nj t j x,fun _ _=>False,nj t j x,fun _ _=>False⟩):
 ZX P false f args [] (.iv x) [(j, .box [.iv x])]:=
 IN hf YZ rfl rfl (M7 (Tj hn _ _ _ h) fun s h=>by
  obtain⟨D,h0,h1,h2,h3⟩:=h
  have Xg:((s.ZR D).hp.map (·.1)).all (· <1000)=true:=by
   rw[a8C];intro k hk;exact a8C.1 (Dx h3) k (lQ D hk)
  let E:=((s.ZR D).hp.map (·.1)).filter (· ≠j)
  have hE:E.all (· <1000)=true:=by
   rw[a8C];intro k hk;exact a8C.1 Xg k (a2E.1 hk).1
  have hj:j∉E:=fun hk=>by have:=(a2E.1 hk).2;simp at this
  obtain⟨g1,g2⟩:=b5u E hj h1 h2;refine⟨(s.ZR D).ZR E,[.iv x],(Sg D h0 s).trans (Sg E hE _),?_,rfl,fun id=>?_,fun h=>by cases h⟩
  ·simp[VN,g1,g2]
  ·simp only[look]
   by_cases e:j=id
   ·subst e;rw[if_pos rfl];exact g2
   ·rw[if_neg e];refine CF _ ?_
    cases hl:look (s.ZR D).hp id with
    |none=>exact .inr rfl
    |some o=>exact .inl (a2E.2 ⟨a0L hl,by simpa using Ne.symm e⟩))
theorem e7k{P:Program}{g:Operand}{ps:List Nat}{X Y:Z9}{s:St}{O:Yr}(D D':List Nat)(r:Nat)(fr:List (Nat×AV))(I:List (List AV)->Prop)(H:List (List AV)->Hp)(cont:List (List AV)->List AV->Bool)(Hx:List (List AV)->List AV->Hp)
 {f:FuncId} {caps:List IV} {T4:List (List AV)->List AV->Prop} {S:List (List AV)->Prop} (VS:ox P f caps T4 S) (h0:LeTo D s ⟨fr,H []⟩) (hg:St.ev ⟨fr,H []⟩ g= .fn f [] (caps.map Z3.val)) (ZY:XV P f=true)
 (hr:r<1000) (Df:look (H []) r=none) (VM:(fr.map (·.1)).Nodup) (hlen:∀pre x,T4 pre x->x.length=ps.length) (hI:I [])
 (Wx:∀vs pre x,I pre->T4 pre x->cont pre x=true->I (pre++[x])/\X7 P X (UF ps x ⟨fr,(r, .gh ZT vs (XU fr))::H pre⟩)
  ⟨fun s'=>X7 P Y s' ⟨fun s2=>LeTo D' s2 ⟨[],(r, .gh ZT vs (XU fr))::H (pre++[x])⟩,fun _ _=>False,fun _=>False,fun _ _=>False⟩,fun _ _=>False,fun _=>False,fun _ _=>False⟩)
 (f8Z:∀vs pre x,I pre->T4 pre x->cont pre x=false->X7 P X (UF ps x ⟨fr,(r, .gh ZT vs (XU fr))::H pre⟩)
  ⟨fun s'=>X7 P Y s' ⟨fun _=>False,fun _ _=>False,fun s2=>LeTo D' s2 ⟨[],(r, .gh ZT vs (XU fr))::Hx pre x⟩,fun _ _=>False⟩,fun _ _=>False,fun _=>False,fun _ _=>False⟩)
 (g4V:∀vs pre x,I pre->T4 pre x->cont pre x=false->O.r ⟨fr,(r, .gh ZT vs (XU fr))::Hx pre x⟩)
 (Mn:∀vs xs,I xs->S xs->O.n ⟨fr,(r, .gh ZT vs (XU fr))::H xs⟩):F3 P g ps X Y s O:=by
 refine⟨f,caps,T4,S,r,fr,I,H,cont,Hx,⟨h0.le,hg,ZY,VS,hr,Df,VM,hlen,hI⟩,fun vs pre x q1 q2 q3=>⟨(Wx vs pre x q1 q2 q3).1,?_⟩,fun vs pre x q1 q2 q3=>?_,fun vs xs q1 q2=>⟨_,Le.refl _,Mn vs xs q1 q2⟩⟩
 ·refine CB X ?_ ?_ ?_ ?_ (Wx vs pre x q1 q2 q3).2
  ·intro s h;refine CB Y ?_ ?_ ?_ ?_ h
   ·exact fun s2 h=>h.le
   ·exact fun _ _ h=>h
   ·exact fun _ h=>h
   ·exact fun _ _ h=>h
  ·exact fun _ _ h=>h
  ·exact fun _ h=>h
  ·exact fun _ _ h=>h
 ·refine CB X ?_ ?_ ?_ ?_ (f8Z vs pre x q1 q2 q3)
  ·intro s h;refine CB Y ?_ ?_ ?_ ?_ h
   ·exact fun _ h=>h
   ·exact fun _ _ h=>h.elim
   ·exact fun s2 h=>⟨h.le,_,Le.refl _,g4V vs pre x q1 q2 q3⟩
   ·exact fun _ _ h=>h
  ·exact fun _ _ h=>h
  ·exact fun _ h=>h
  ·exact fun _ _ h=>h
end Go.Vm
namespace Go.Rt
open Go.Vm
def X3(e:Ev):List (Vl×Vs):=if e.kind=2 then[(e.key,e.Z4)]else if e.kind=4 then e.refs.map fun r=>(r.key,r.Z4)else[]
def US(p:Vl×Vs):List AV:=[p.1.av,p.2.av]
def DO(l:List (Vl×Vs)):List (List AV):=l.map US
def f1w(e:Ev)(pre:List (List AV))(x:List AV):Prop:=∃(i:Nat) (p:Vl×Vs),(X3 e)[i]? =some p/\pre=DO ((X3 e).take i)/\x=US p
def f2w(e:Ev)(xs:List (List AV)):Prop:=xs=DO (X3 e)
theorem e9k{e:Ev}(h2:¬e.kind=2)(h4:e.kind=4){i:Nat}{r:Rf}(hr:e.refs[i]? =some r):(X3 e)[i]? =some (r.key,r.Z4):=by
 unfold X3;rw[if_neg h2,if_pos h4,a1C,hr];rfl
theorem e0l{e:Ev}(h2:¬e.kind=2)(h4:e.kind=4){i:Nat}{r:Rf}(hr:e.refs[i]? =some r):DO ((X3 e).take i)++[US (r.key,r.Z4)]=DO ((X3 e).take (i+1)):=by
 rw[show(X3 e).take (i+1)=(X3 e).take i++[(r.key,r.Z4)] by rw[a3I,e9k h2 h4 hr];rfl];simp[DO]
theorem e1l:XV prog Ry=true:=by kernel_rfl
theorem e2l{e:Ev}(XJ:e.Ok):ox prog Ry [.pt e.cells] (f1w e) (f2w e):=by
 intro l Zs Zx cont hy;have mZ:=XJ.refs;refine b5Y dn (by simp) (by decide) ?_
 by_cases k2:e.kind=2
 ·have hs:X3 e=[(e.key,e.Z4)]:=by unfold X3;rw[if_pos k2]
  have hp:f1w e [] (US (e.key,e.Z4)):=⟨0,(e.key,e.Z4),by rw[hs];rfl,rfl,rfl⟩;simp-dsimp[a8q,Ev.Z8 e,k2];refine b6Y (g:=1000) (hy _ _ hp) (by simp) (by simp[US]) rfl ?_
  cases Ve:cont [] (US (e.key,e.Z4))with
  |true=>
   simp-dsimp[Ve];exact⟨Zs [US (e.key,e.Z4)],by simp,fun A B w hz=> .inl ⟨_,by unfold f2w;rw[hs];rfl,hz⟩,by simp⟩
  |false=>
   simp-dsimp[Ve];exact⟨Zx [] (US (e.key,e.Z4)),by simp,fun A B w hz=> .inr ⟨_,_,hz⟩,by simp⟩
 ·by_cases k4:e.kind=4
  ·have hlen:(X3 e).length=e.refs.length:=by unfold X3;rw[if_neg k2,if_pos k4];simp
   simp-dsimp[a8q,Ev.Z8 e,k2,k4]
   refine YJ [] [4] e.refs.length (fun i=>⟨[(20,vi i),(19,vi e.refs.length),(18, .iv (.Z6 5 (Mx e.refs))),(0, .iv (.v (.func (.yield l) #[] #[]))),(1, .iv (.pt e.cells))],
    [(1000, .gh (Zs (DO ((X3 e).take i))) [] [])]⟩) (fun _=>True) ?_ trivial ?_
   ·simp-dsimp[DO,Ev.Z8 e,k4]
   ·intro i hi _;simp-dsimp[EL];refine⟨fun Z2=>?_,fun X9=>?_⟩
    ·obtain⟨r,hr⟩:=Zr Z2;have hw:=Zk (n:=(i:Int)+1) (by omega);have hp:f1w e (DO ((X3 e).take i)) (US (r.key,r.Z4)):=⟨i,(r.key,r.Z4),e9k k2 k4 hr,rfl,rfl⟩;have YD:=e0l k2 k4 hr;simp-dsimp[hr,Rf.Z8 r];refine b6Y (g:=1000) (hy _ _ hp) (by simp) (by simp[US]) rfl ?_
     cases Ve:cont (DO ((X3 e).take i)) (US (r.key,r.Z4))with
     |true=>
      simp-dsimp[Ve,YD,hw];exact Z2
     |false=>
      simp-dsimp[Ve];exact⟨Zx (DO ((X3 e).take i)) (US (r.key,r.Z4)),by simp,fun A B w hz=> .inr ⟨_,_,hz⟩,by simp⟩
    ·have:(X3 e).take i=X3 e:=a0z (by omega);rw[this];exact⟨Zs (DO (X3 e)),by simp,fun A B w hz=> .inl ⟨_,rfl,hz⟩,by simp⟩
  ·have hs:X3 e=[]:=by unfold X3;rw[if_neg k2,if_neg k4]
   simp-dsimp[a8q,Ev.Z8 e,k2,k4];exact⟨Zs [],by simp,fun A B w hz=> .inl ⟨_,by unfold f2w;rw[hs];rfl,hz⟩,by simp⟩
theorem e3l(e:Ev):Mr prog false K6 [e.av] [] (fun r K=>r= .fn Ry [] [.ptr 1 0]/\K=[(1, .box (e.cells.map .iv))]):=by
 refine b8Y _ dG (by simp) (by decide) (fun x H' h=>by
  obtain⟨rfl,rfl⟩:=h;refine⟨fun id o ho=>?_,by simp⟩;simp only[Vm.look]at ho;split at ho
  ·cases ho;rfl
  ·cases ho) ?_
 simp-dsimp[Nk,Ev.av];exact⟨[],_,_,⟨rfl,rfl⟩,by simp-dsimp⟩
theorem e4l(e:Ev):ZX prog false K6 [e.av] [] (.fn Ry [] [.ptr 901 0]) [(901, .box (e.cells.map .iv))]:=by
 have h:=((e3l e).one (fun _ _ e=>e) (fun id o ho=>by
  simp only[Vm.look]at ho;split at ho
  ·cases ho;rfl
  ·cases ho)).Zl (Ren.swap 1 901) (by simp[Ev.av,AV.WV,AV.Vo,AV.Va,Ob.WV])
 have e1:(Ren.swap 1 901).to 1=901:=by simp[Ren.swap,CP]
 have e2:∀ρ:Nat->Nat,AV.VX ρ∘AV.iv=AV.iv:=fun ρ=>funext fun x=>rfl
 have e3:∀ρ:Nat->Nat,AV.VW ρ∘AV.iv=AV.iv:=fun ρ=>funext fun x=>rfl
 simpa[Ev.av,Hp.Zl,AV.Zl,AV.VW,AV.VX,Ob.Zl,Z3.Zl,e1,e2,e3]using h
end Go.Rt
end

section
namespace Go.Rt
open Go.Vm
abbrev skI:Sk:=(false,[.i .i64],false)
def H9(l:List Int):List Value->Option (List IV)
 | [.int .i64 k]=>if k∈l then some [ci 1]else none
 | _=>none
theorem e3e:H9 []=fun _=>none:=by
 funext q;unfold H9;split
 ·simp
 ·rfl
theorem e4e(l:List Int)(k:Int):ZH (H9 l) [.int .i64 k] (some [ci 1])=H9 (l++[k]):=by
 funext q
 simp only[ZH];split
 ·rename_i h;subst h;simp[H9]
 ·rename_i ZV;unfold H9;split
  ·rename_i q'
   have:q'≠k:=by rintro rfl;exact ZV rfl
   simp[this]
  ·rfl
theorem e5e(l:List Int)(k:Int):Nz [.iv (.v (.int .i64 0))] false false (H9 l [Value.int .i64 k])=vi (if k∈l then 1 else 0):=by
 unfold H9
 by_cases h:k∈l<;>simp[h,Nz]
def e6e(es:List Ev):IV:= .mp skI (H9 (Xo (Ye es)))
theorem e7e{l:List Int}{x:Int}:x∈Xo l↔x∈l:=d3k
def VQ(es:List Ev)(_:Ev)(_:Vl)(v:Vs):Bool:=decide (v.txn∉Ye es)
def V6(es:List Ev)(e:Ev)(k:Vl)(v:Vs):Bool:=decide (v.txn≠e.txn)&&(WK es e.table k ⟨v.txn,IntKind.i64.wrap (v.n+1)⟩).isSome
theorem e8e(es:List Ev)(os:List Ins)(e:Ev)(k:Vl)(v:Vs):ZX prog true Li [.iv (Yv es os), .iv (e6e es),e.av,k.av,v.av] [] (vb (VQ es e k v)) []:=by
 refine YG dX (by simp) (by decide) rfl ?_;simp-dsimp[a3q,e6e,Ev.av,VQ,e5e]
 by_cases h:v.txn∈Xo (Ye es)
 ·have h2:=e7e.1 h;simp-dsimp[h,h2]
 ·have h2:v.txn∉Ye es:=fun g=>h (e7e.2 g)
  simp-dsimp[h,h2]
theorem e9e{es:List Ev}(os:List Ins)(e:Ev)(k:Vl)(v:Vs)(Y8:HK es):ZX prog true Lg [.iv (Yv es os), .iv (e6e es),e.av,k.av,v.av] [] (vb (V6 es e k v)) []:=by
 have hR:=b2y es os e.table k ⟨v.txn,IntKind.i64.wrap (v.n+1)⟩ Y8;refine YG dJ (by simp) (by decide) rfl ?_;simp-dsimp[a5q,e6e,Ev.av,V6];refine Y6 hR rfl (by simp) (by simp) (by simp) (by simp) ?_
 by_cases h:v.txn=e.txn
 ·simp-dsimp[h]
 ·simp-dsimp[h]
def Cu(es:List Ev)(level:Int)(e:Ev):Bool:=decide (e.txn∈Ye es/\level<=Yb es e.txn)
def KO(bad:Vl->Vs->Bool)(p:Vl×Vs):Bool:=decide (p.2≠⟨0,0⟩)&&bad p.1 p.2
def VI(es:List Ev)(level:Int)(bad:Ev->Vl->Vs->Bool)(e:Ev):Bool:=Cu es level e&&(X3 e).any (KO (bad e))
noncomputable def YF(h:Hs)(level:Int)(bad:Ev->Vl->Vs->Bool):Int:=open Classical in if Zo h then Uv (VI h.events level bad) h.events else-1
def T9(h:Hs)(g:FuncId)(v:Int):Hp:=[(7, .box [.iv (Yv h.events h.order)]),(6, .box [vi v]),(5, .box [.fn g [] []]),(3, .box [.iv (.Z6 1 (Za h.tables)), .iv (.Z6 22 (ZB h.events)), .iv (.Z6 5 (Zi h.order))])]
def f0w(bad:Vl->Vs->Bool):List AV->Bool
 | [.agg [.iv (.v (.bool t)), .iv (.v (.int _ n)), .iv (.v (.string s))], .agg [.iv (.v (.int _ a)), .iv (.v (.int _ b))]]=> !KO bad (⟨t,n,s⟩,⟨a,b⟩)
 | _=>true
theorem e1f(bad:Vl->Vs->Bool)(p:Vl×Vs):f0w bad (US p)= !KO bad p:=rfl
theorem e2f{h:Hs}(ZY:h.Ok)(XM:h.events.length<2^40)(level:Int){g:FuncId}(hg:XV prog g=true)(bad:Ev->Vl->Vs->Bool)
 (hb:Zo h->∀e k v,ZX prog true g [.iv (Yv h.events h.order), .iv (e6e h.events),e.av,k.av,v.av] [] (vb (bad e k v)) []):
 ZX prog false Lj [h.av,vi level, .fn g [] []] [] (vi (YF h level bad)) [(6, .box [vi (YF h level bad)])]:=by
 refine e6k 6 (ci (YF h level bad)) ea (by simp[Hs.av]) (by decide) ?_;simp-dsimp[PV,Hs.av]
 rcases e6s ZY XM with⟨hw,hR⟩|⟨hw,hR⟩
 ·have hb:=hb hw
  have Cr:YF h level bad=Uv (VI h.events level bad) h.events:=by unfold YF;rw[if_pos hw]
  refine Y6 hR rfl (by simp[Hs.av]) (by simp[Hs.av]) (by simp) (by simp) ?_;simp-dsimp[Yv];refine Y6 (b1y h.events h.order XM) rfl (by simp[Yv]) (by simp) (by simp) (by simp) ?_;simp-dsimp
  have QA:(Xo (Ye h.events)).length<2^40:=by rw[KH];have:=d6k h.events;omega
  refine YJ [] [] (Xo (Ye h.events)).length (fun i=>⟨[(23,vi i),(22,vi (Xo (Ye h.events)).length),(21, .iv (YI (Xo (Ye h.events)))),(8, .ptr 8 0),(7, .ptr 7 0),(6, .ptr 6 0),(5, .ptr 5 0),(1,vi level),(3, .ptr 3 0)],
   (8, .box [.mpr 19])::(19, .map skI (H9 ((Xo (Ye h.events)).take i)))::T9 h g 0⟩) (fun _=>True) ?_ trivial ?_
  ·simp-dsimp[T9,Yv,e3e]
  ·intro i hi _;simp-dsimp[JW,T9];refine⟨fun Z2=>?_,fun X9=>?_⟩
   ·obtain⟨x,hx⟩:=Zr Z2;have hw:=Zk (n:=(i:Int)+1) (by omega)
    have YD:(Xo (Ye h.events)).take (i+1)=(Xo (Ye h.events)).take i++[x]:=by rw[a3I,hx];rfl
    simp-dsimp[hx,hw,e4e,YD,YI];exact Z2
   ·rw[a0z X9];clear hi X9
    refine YJ [] [11,12,13,14,901,990] h.events.length (fun i=>⟨[(33,vi i),(32,vi h.events.length),(31, .iv (.Z6 22 (ZB h.events))),(8, .ptr 8 0),(7, .ptr 7 0),(6, .ptr 6 0),(5, .ptr 5 0),(1,vi level)],
     (8, .box [.mpr 19])::(19, .map skI (H9 (Xo (Ye h.events))))::T9 h g 0⟩) (fun i=>ZK i fun j=>∀e,h.events[j]? =some e->VI h.events level bad e=false) ?_ TP ?_
    ·simp-dsimp[T9]
    ·intro i hi hq;simp-dsimp[JV,T9];refine⟨fun Z2=>?_,fun X9=>?_⟩
     ·obtain⟨e,he⟩:=Zr Z2;have XJ:=ZY.ev e (a6y he);have hw:=Zk (n:=(i:Int)+1) (by omega);have hL:=b0y h.events h.order e.txn
      have Zm:VI h.events level bad e=false->ZK (i+1) fun j=>∀e,h.events[j]? =some e->VI h.events level bad e=false:=fun g=>hq.succ fun y hy=>by rw[he]at hy;cases hy;exact g
      have UH:VI h.events level bad e=true->YF h level bad=i:=fun g=>by rw[Cr];exact Cq he g hq
      clear hq;have hsc:(e.txn∈Xo (Ye h.events))=(e.txn∈Ye h.events):=propext e7e
      by_cases hc:e.txn∈Ye h.events
      ·simp-dsimp[he,Ev.Z8 e,YB,e5e,hsc,hc];refine ZN hL (by simp) (by simp) ?_
       by_cases Dg:Yb h.events e.txn<level
       ·have hbe:VI h.events level bad e=false:=by
         unfold VI Cu;rw[decide_eq_false (fun g=>by omega)];rfl
        simp-dsimp[Dg,hw];exact⟨Z2,Zm hbe⟩
       ·have hbe:VI h.events level bad e=(X3 e).any (KO (bad e)):=by
         unfold VI Cu;rw[decide_eq_true ⟨hc,by omega⟩];rfl
        simp-dsimp[Dg];refine Y6 (e4l e) rfl (by simp[Ev.av,Ev.Z8 e]) (by simp[Ev.av,Ev.Z8 e]) (by simp) (by simp) ?_;simp-dsimp
        have Nh:([AV.iv (ci e.txn),AV.iv (ci e.kind),AV.iv (ci e.level),AV.iv (ci e.table),AV.iv (cb e.key.text),AV.iv (ci e.key.n),AV.iv (IV.v (Value.string e.key.s)),
         AV.iv (ci e.Z4.txn),AV.iv (ci e.Z4.n),AV.iv (ci e.n),AV.iv (IV.Z6 3 (Yp e.row)),AV.iv (ci e.pred.op),AV.iv (ci e.pred.col),AV.iv (cb e.pred.v.text),AV.iv (ci e.pred.v.n),
         AV.iv (IV.v (Value.string e.pred.v.s)),AV.iv (cb e.pred.w.text),AV.iv (ci e.pred.w.n),AV.iv (IV.v (Value.string e.pred.w.s)),AV.iv (IV.Z6 9 (d8i Pd.cells e.pred.l)),
         AV.iv (IV.Z6 5 (Mx e.refs)),AV.iv (cb e.cur)]:List AV)=e.cells.map .iv:=by rw[Ev.Z8];rfl
        rw[Nh]
        refine e7k [901] [13,14] 990 [(52, .fn Ry [] [.val (.pt e.cells)]),(33,vi i),(32,vi h.events.length),(31, .iv (.Z6 22 (ZB h.events))),(12, .ptr 12 0),(11, .ptr 11 0),(8, .ptr 8 0),(7, .ptr 7 0),(6, .ptr 6 0),(5, .ptr 5 0),(1,vi level)]
         (fun pre=>∀x,x∈pre->f0w (bad e) x=true) (fun _=>(12, .box (e.cells.map .iv))::(11, .box [vi i])::(8, .box [.mpr 19])::(19, .map skI (H9 (Xo (Ye h.events))))::T9 h g 0)
         (fun _ x=>f0w (bad e) x) (fun _ _=>(12, .box (e.cells.map .iv))::(11, .box [vi i])::(8, .box [.mpr 19])::(19, .map skI (H9 (Xo (Ye h.events))))::T9 h g i)
         (e2l XJ) ?_ (by simp) e1l (by decide) (by simp[T9]) (by simp) ?_ (fun x hx=>by cases hx) ?_ ?_ ?_ ?_
        ·simp-dsimp[T9]
        ·rintro pre _ ⟨j,p,_,_,rfl⟩;rfl
        ·rintro vs pre _ hI ⟨j,p,hp,Om,rfl⟩ Ve;rw[e1f]at Ve;refine⟨fun x hx=>?_,?_⟩
         ·rcases a9E.1 hx with q|q
          ·exact hI x q
          ·rw[a1B.1 q,e1f];exact Ve
         ·clear hI
          by_cases hv:p.2=⟨0,0⟩
          ·obtain⟨v1,v2⟩:=Vs.eq_iff.1 hv;simp-dsimp[RT,RS,UF,St.set_mk,US,XU,T9,YB,v1,v2]
          ·have hv2:p.2.txn=0->¬p.2.n=0:=fun q1 q2=>hv (Vs.eq_iff.2 ⟨q1,q2⟩)
           have hbb:bad e p.1 p.2=false:=by simpa[KO,hv]using Ve
           simp-dsimp[RT,RS,UF,St.set_mk,US,XU,T9,YB]
           refine fun _=>⟨hg,PH (hb e p.1 p.2) (by simp) (by simp[Ev.av,e6e]) (by simp[Ev.av]) ?_⟩
           simp-dsimp[hbb]
        ·rintro vs pre _ hI ⟨j,p,hp,Om,rfl⟩ Ve;rw[e1f]at Ve
         have Ve:KO (bad e) p=true:=by simpa using Ve
         have hv:¬p.2=⟨0,0⟩:=fun q=>by simp[KO,q]at Ve
         have hv2:p.2.txn=0->¬p.2.n=0:=fun q1 q2=>hv (Vs.eq_iff.2 ⟨q1,q2⟩)
         have hbb:bad e p.1 p.2=true:=by simpa[KO,hv]using Ve
         clear hI;simp-dsimp[RT,RS,UF,St.set_mk,US,XU,T9,YB];refine⟨fun _=>⟨hg,PH (hb e p.1 p.2) (by simp) (by simp[Ev.av,e6e]) (by simp[Ev.av]) ?_⟩,fun q1 q2=>absurd q2 (hv2 q1)⟩;simp-dsimp[hbb]
        ·rintro vs pre _ hI ⟨j,p,hp,Om,rfl⟩ Ve;rw[e1f]at Ve
         have Ve:KO (bad e) p=true:=by simpa using Ve
         rw[UH (by rw[hbe];exact b9G.2 ⟨p,a6y hp,Ve⟩)]
         refine⟨[],?_⟩;simp[T9]
        ·intro vs xs hI hS
         have Cp:VI h.events level bad e=false:=by
          rw[hbe];rw[d3m];intro q;obtain⟨p,hp,hb⟩:=b9G.1 q;have:=hI (US p) (by rw[hS];exact a0E.2 ⟨p,hp,rfl⟩)
          rw[e1f,hb]at this;cases this
         simp-dsimp[T9,XU,hw];exact⟨Z2,Zm Cp⟩
      ·have hbe:VI h.events level bad e=false:=by
        unfold VI Cu;rw[decide_eq_false (fun g=>hc g.1)];rfl
       simp-dsimp[he,Ev.Z8 e,YB,e5e,hsc,hc,hw];exact⟨Z2,Zm hbe⟩
     ·rw[Cr,Di (HQ X9 hq)];exact⟨[],by simp⟩
 ·have Cr:YF h level bad= -1:=by unfold YF;rw[if_neg hw]
  refine Y6 hR rfl (by simp[Hs.av]) (by simp[Hs.av]) (by simp) (by simp) ?_;simp-dsimp[Cr];exact⟨[],by simp⟩
def UG(h:Hs)(what:Int)(e:Ev)(k:Vl)(v:Vs):Bool:=if v=⟨0,0⟩then false else if what=1 then decide (Xd h.events v.txn≠5)else decide (v.txn≠e.txn/\v.n≠Yk h.events v.txn e.table k)
def W6(es:List Ev)(txn:Int):Int:=((es.find? (Ev.UP txn)).map Ev.level).getD 0
theorem b8m{h:Hs}(ZY:h.Ok)(e:Ev)(k:Vl)(v:Vs)(what:Int):ZX prog true NY [h.av,e.av,k.av,v.av,vi what] [] (vb (UG h what e k v)) []:=by
 have hW:=mn ZY h.events.length v.txn e.table k;rw[a6J]at hW;have hC:=b0H ZY v.txn;refine YG mf (by simp[Hs.av]) (by decide) rfl ?_
 by_cases h0:v=⟨0,0⟩
 ·have hb:UG h what e k v=false:=by unfold UG;rw[if_pos h0]
  subst h0;rw[hb];simp-dsimp[c9o,Hs.av,Ev.av]
 ·have h1:v.txn=0->¬v.n=0:=fun h h'=>h0 (Vs.eq_iff.2 ⟨h,h'⟩)
  have hb:UG h what e k v=if what=1 then decide (Xd h.events v.txn≠5)else decide (v.txn≠e.txn/\v.n≠Yk h.events v.txn e.table k):=by unfold UG;rw[if_neg h0]
  rw[hb]
  by_cases Wp:what=1
  ·simp-dsimp[c9o,Hs.av,Ev.av,Wp];refine⟨fun a b=>absurd b (h1 a),fun _=>?_⟩;refine ZN hC (by simp[Hs.av]) (by simp[Hs.av]) ?_;simp-dsimp
  ·simp-dsimp[c9o,Hs.av,Ev.av,Wp];refine⟨fun a b=>absurd b (h1 a),fun _=>?_⟩;refine ZN hW (by simp[Hs.av]) (by simp[Hs.av]) ?_
   by_cases ht:v.txn=e.txn
   ·simp-dsimp[ht]
   ·simp-dsimp[ht];rfl
def Vf(h:Hs)(level what:Int)(e:Ev):Bool:=decide (Xd h.events e.txn=5/\level<=W6 h.events e.txn)&&(X3 e).any fun p=>UG h what e p.1 p.2
noncomputable def SA(h:Hs)(level what:Int):Int:=open Classical in if Zo h then Uv (Vf h level what) h.events else-1
theorem b9m{α:Type}{p:α->Bool}{l:List α}(h:∀x,x∈l->p x=false):l.any p=false:=by
 rw[d3m];intro g;obtain⟨x,hx,hp⟩:=b9G.1 g;rw[h x hx]at hp;cases hp
theorem b0n{h:Hs}(ZY:h.Ok)(XM:h.events.length<2^40)(level what:Int):ZX prog true Lh [h.av,vi level,vi what] [] (vi (SA h level what)) []:=by
 refine YG me (by simp[Hs.av]) (by decide) rfl ?_;simp-dsimp[c8o,Hs.av];refine ZN (mN ZY) (by simp[Hs.av]) (by simp[Hs.av]) ?_
 by_cases hw:Zo h
 ·have M8:Y7 (
   Zo h)=true:=UQ.2 hw
  have Cr:SA h level what=Uv (Vf h level what) h.events:=by unfold SA;rw[if_pos hw]
  simp-dsimp[M8]
  refine YJ [] [9] h.events.length (fun i=>⟨[(8,vi i),(3, .ptr 3 0),(1,vi level),(2,vi what)],[(3, .box [.iv (.Z6 1 (Za h.tables)), .iv (.Z6 22 (ZB h.events)), .iv (.Z6 5 (Zi h.order))])]⟩)
   (fun i=>ZK i fun j=>∀e,h.events[j]? =some e->Vf h level what e=false) ?_ TP ?_
  ·simp-dsimp
  ·intro i hi hq;simp-dsimp[KM];refine⟨fun Z2=>?_,fun X9=>?_⟩
   ·obtain⟨e,he⟩:=Zr Z2;have XJ:=ZY.ev e (a6y he);have mZ:=XJ.refs;have hw:=Zk (n:=(i:Int)+1) (by omega);have hC:=b0H ZY e.txn;have hL:=b7H ZY e.txn
    have hB:∀k v,ZX prog true NY [h.av,e.av,k.av,v.av,vi what] [] (vb (UG h what e k v)) []:=fun k v=>b8m ZY e k v what
    have Zm:Vf h level what e=false->ZK (i+1) fun j=>∀e,h.events[j]? =some e->Vf h level what e=false:=fun g=>hq.succ fun y hy=>by rw[he]at hy;cases hy;exact g
    have UH:Vf h level what e=true->SA h level what=i:=fun g=>by rw[Cr];exact Cq he g hq
    clear hq;simp-dsimp[he,Ev.Z8 e,YB];refine ZN hC (by simp[Hs.av]) (by simp[Hs.av]) ?_
    by_cases h5:Xd h.events e.txn=5
    ·simp-dsimp[h5];refine ZN hL (by simp[Hs.av]) (by simp[Hs.av]) ?_;have g3w:((h.events.find? (Ev.UP e.txn)).map Ev.level).getD 0=W6 h.events e.txn:=rfl;rw[g3w]
     by_cases Dg:W6 h.events e.txn<level
     ·have hb:Vf h level what e=false:=by unfold Vf;rw[decide_eq_false (by omega)];rfl
      simp-dsimp[Dg,hw];exact⟨Z2,Zm hb⟩
     ·have Ts:Vf h level what e=(X3 e).any fun p=>UG h what e p.1 p.2:=by unfold Vf;rw[decide_eq_true ⟨h5,by omega⟩,c0S]
      by_cases k2:e.kind=2
      ·have hs:X3 e=[(e.key,e.Z4)]:=by unfold X3;rw[if_pos k2]
       rw[hs]at Ts;simp only[c9B,List.any_nil,Bool.or_false]at Ts;simp-dsimp[Dg,k2];refine ZN (hB e.key e.Z4) (by simp[Hs.av,Ev.av,Ev.Z8 e,k2]) (by simp[Hs.av,Ev.av]) ?_
       cases hbv:UG h what e e.key e.Z4 with
       |true=>
        rw[UH (by rw[Ts,hbv])];simp-dsimp
       |false=>
        have Cp:Vf h level what e=false:=by rw[Ts,hbv]
        simp-dsimp
        refine YJ [] [] 0 (fun k=>⟨[(11,vi k),(9, .ptr 9 0),(8,vi i),(3, .ptr 3 0),(1,vi level),(2,vi what)],[(9, .box (e.cells.map .iv)),(3, .box [.iv (.Z6 1 (Za h.tables)), .iv (.Z6 22 (ZB h.events)), .iv (.Z6 5 (Zi h.order))])]⟩)
         (fun _=>True) ?_ trivial ?_
        ·simp-dsimp[Ev.Z8 e,k2]
        ·intro k hk _
         obtain rfl:k=0:=by omega
         by_cases Df:0<e.refs.length
         ·simp-dsimp[Vx,Ev.Z8 e,k2,Df,hw];exact⟨Z2,Zm Cp⟩
         ·have QP:e.refs.length=0:=by omega
          simp-dsimp[Vx,Ev.Z8 e,k2,QP,hw];exact⟨Z2,Zm Cp⟩
      ·by_cases k4:e.kind=4
       ·have hs:X3 e=e.refs.map fun r=>(r.key,r.Z4):=by unfold X3;rw[if_neg k2,if_pos k4]
        have Dq:Vf h level what e=e.refs.any fun r=>UG h what e r.key r.Z4:=by rw[Ts,hs,List.any_map];rfl
        simp-dsimp[Dg,k2,k4]
        refine YJ [] [] e.refs.length (fun k=>⟨[(11,vi k),(9, .ptr 9 0),(8,vi i),(3, .ptr 3 0),(1,vi level),(2,vi what)],[(9, .box (e.cells.map .iv)),(3, .box [.iv (.Z6 1 (Za h.tables)), .iv (.Z6 22 (ZB h.events)), .iv (.Z6 5 (Zi h.order))])]⟩)
         (fun k=>ZK k fun j=>∀r,e.refs[j]? =some r->UG h what e r.key r.Z4=false) ?_ TP ?_
        ·simp-dsimp[Ev.Z8 e,k4]
        ·intro k hk Qm
         by_cases Vy:k<e.refs.length
         ·obtain⟨r,hr⟩:=Zr Vy;have MF:=Zk (n:=(k:Int)+1) (by omega)
          have Co:decide (k<e.refs.length)=true:=by simpa using Vy
          simp-dsimp[Vx,Ev.Z8 e,k4,Co,hr,Rf.Z8 r,YB];refine ZN (hB r.key r.Z4) (by simp[Hs.av,Ev.av,Ev.Z8 e,k4]) (by simp[Hs.av,Ev.av]) ?_
          cases hbv:UG h what e r.key r.Z4 with
          |true=>
           rw[UH (by rw[Dq];exact b9G.2 ⟨r,a6y hr,hbv⟩)]
           simp-dsimp
          |false=>
           simp-dsimp[MF];exact⟨Vy,Qm.succ fun y hy=>by rw[hr]at hy;cases hy;exact hbv⟩
         ·have Dr:k=e.refs.length:=by omega
          have Cp:Vf h level what e=false:=by rw[Dq];exact b9m (HQ (by omega) Qm)
          subst Dr;simp-dsimp[Vx,Ev.Z8 e,k4,hw];exact⟨Z2,Zm Cp⟩
       ·have hs:X3 e=[]:=by unfold X3;rw[if_neg k2,if_neg k4]
        have Cp:Vf h level what e=false:=by rw[Ts,hs];rfl
        simp-dsimp[Dg,k2]
        refine YJ [] [] 0 (fun k=>⟨[(11,vi k),(9, .ptr 9 0),(8,vi i),(3, .ptr 3 0),(1,vi level),(2,vi what)],[(9, .box (e.cells.map .iv)),(3, .box [.iv (.Z6 1 (Za h.tables)), .iv (.Z6 22 (ZB h.events)), .iv (.Z6 5 (Zi h.order))])]⟩)
         (fun _=>True) ?_ trivial ?_
        ·simp-dsimp[Ev.Z8 e,k4]
        ·intro k hk _
         obtain rfl:k=0:=by omega
         by_cases Df:0<e.refs.length
         ·simp-dsimp[Vx,Ev.Z8 e,k4,Df,hw];exact⟨Z2,Zm Cp⟩
         ·have QP:e.refs.length=0:=by omega
          simp-dsimp[Vx,Ev.Z8 e,k4,QP,hw];exact⟨Z2,Zm Cp⟩
    ·have hb:Vf h level what e=false:=by unfold Vf;rw[decide_eq_false (fun g=>h5 g.1)];rfl
     simp-dsimp[h5,hw];exact⟨Z2,Zm hb⟩
   ·rw[Cr,Di (HQ X9 hq)]
 ·have G5:Y7 (Zo h)=false:=U6.2 hw
  have Cr:SA h level what= -1:=by unfold SA;rw[if_neg hw]
  simp-dsimp[G5,Cr]
theorem b1n{h:Hs}(ZY:h.Ok)(XM:h.events.length<2^40)(level:Int):ZX prog true Qi [h.av,vi level] [] (vi (SA h level 1)) []:=by
 have g1:=b0n ZY XM level 1;refine YG mc (by simp[Hs.av]) (by decide) rfl ?_;simp-dsimp[a5p,Hs.av];refine ZN g1 (by simp[Hs.av]) (by simp[Hs.av]) ?_;simp-dsimp
theorem b2n{h:Hs}(ZY:h.Ok)(XM:h.events.length<2^40)(level:Int):ZX prog true Qh [h.av,vi level] [] (vi (SA h level 2)) []:=by
 have g1:=b0n ZY XM level 2;refine YG ma (by simp[Hs.av]) (by decide) rfl ?_;simp-dsimp[a7p,Hs.av];refine ZN g1 (by simp[Hs.av]) (by simp[Hs.av]) ?_;simp-dsimp
theorem b3n{h:Hs}(ZY:h.Ok)(XM:h.events.length<2^40)(level:Int):ZX prog true TW [h.av,vi level] [] (vi (YF h level (VQ h.events))) []:=by
 have g1:=e2f ZY XM level (g:=Li) (by kernel_rfl) (VQ h.events) (fun _ e k v=>e8e h.events h.order e k v);generalize YF h level (VQ h.events)=v at*;refine YG l9 (by simp[Hs.av]) (by decide) rfl ?_;simp-dsimp[a4p,Hs.av];refine Y6 g1 rfl (by simp[Hs.av]) (by simp[Hs.av]) (by simp) (by simp) ?_;simp-dsimp
theorem b4n{h:Hs}(ZY:h.Ok)(XM:h.events.length<2^40)(level:Int):ZX prog true SP [h.av,vi level] [] (vi (YF h level (V6 h.events))) []:=by
 have g1:=e2f ZY XM level (g:=Lg) (by kernel_rfl) (V6 h.events) (fun hw e k v=>e9e h.order e k v (d2v hw));generalize YF h level (V6 h.events)=v at*;refine YG l8 (by simp[Hs.av]) (by decide) rfl ?_;simp-dsimp[a6p,Hs.av];refine Y6 g1 rfl (by simp[Hs.av]) (by simp[Hs.av]) (by simp) (by simp) ?_;simp-dsimp
theorem b1k{α:Type}{p q:α->Bool}{l:List α}(h:∀x,x∈l->p x=q x):Uv p l=Uv q l:=by
 unfold Uv
 have:l.findIdx? p=l.findIdx? q:=by
  induction l with
  |nil=>rfl
  |cons x l ih=>
   rw[d7k,d7k,h x a4E,ih fun y hy=>h y (a9C _ hy)]
 rw[this]
theorem b2k{α:Type}{p q:α->Bool}{l:List α}(h:∀x,x∈l->p x=true->q x=true):Uv p l<0\/(0<=Uv q l/\Uv q l<=Uv p l):=by
 rcases oC p l with⟨i,x,h1,h2,h3,h4⟩|⟨h1,h2⟩
 ·right
  rcases oC q l with⟨j,y,g1,g2,g3,g4⟩|⟨g1,g2⟩
  ·rw[h3,g3];refine⟨by omega,?_⟩
   rcases b5j i j with Xu|Xu
   ·have:=g4 i x Xu h1;rw[h x (a6y h1) h2]at this;cases this
   ·omega
  ·have:=g1 x (a6y h1);rw[h x (a6y h1) h2]at this;cases this
 ·left;omega
theorem b3k{α:Type}(p:α->Bool)(l:List α): -1<=Uv p l:=by
 rcases oC p l with⟨i,x,h1,h2,h3,h4⟩|⟨h1,h2⟩<;>omega
section
variable{h:Hs}
theorem b4k(hw:Zo h)(t:Int):t∈Ye h.events↔Xd h.events t=5:=⟨a0B hw,mT⟩
theorem b5k(hw:Zo h)(t:Int):Yb h.events t=W6 h.events t:=by
 unfold Yb W6;rw[c1i (b0z hw)]
theorem b6k(hw:Zo h){e:Ev}(he:e∈h.events){p:Vl×Vs}(hp:p∈X3 e)(hv:p.2≠⟨0,0⟩)(ht:p.2.txn≠e.txn):1<=p.2.n/\p.2.n<=Yk h.events p.2.txn e.table p.1:=by
 obtain⟨i,hi⟩:=a9B he;have XM:=(MT hw hi).1;unfold X3 at hp;split at hp
 ·rename_i k2;rw[a1B]at hp;subst hp;have hr:=(XM.2.1 k2).2;simp only at hv ht⊢;split at hr
  ·rw[hr]at ht;exact absurd rfl ht
  ·rcases hr with hr|⟨g1,g2⟩
   ·exact absurd hr hv
   ·have:=b2z (es:=h.events) i e.Z4.txn e.table e.key;omega
 ·split at hp
  ·rename_i k4;obtain⟨r,hr,rfl⟩:=a0E.1 hp;obtain⟨j,hj⟩:=a9B hr;obtain⟨_,⟨g1,g2⟩,_⟩:=(XM.2.2.2 k4).2.1 j (a5y.1 hj).1 r hj;have:=b2z (es:=h.events) i r.Z4.txn e.table r.key;simp only;omega
  ·cases hp
theorem b7k(es:List Ev)(t table:Int)(k:Vl):Yk es t table k<=es.length:=a0V _ _
theorem b8k(hw:Zo h){e:Ev}{p:Vl×Vs}:KO (VQ h.events e) p=UG h 1 e p.1 p.2:=by
 unfold KO VQ UG
 by_cases hv:p.2=⟨0,0⟩
 ·simp[hv]
 ·simp[hv,b4k hw]
theorem b9k(hw:Zo h)(hl:h.events.length<2^40){e:Ev}(he:e∈h.events){p:Vl×Vs}(hp:p∈X3 e):KO (V6 h.events e) p=UG h 2 e p.1 p.2:=by
 unfold KO V6 UG
 by_cases hv:p.2=⟨0,0⟩
 ·simp[hv]
 ·rw[if_neg hv,if_neg (by decide),decide_eq_true hv,c0S]
  by_cases ht:p.2.txn=e.txn
  ·simp[ht]
  ·obtain⟨h1,h2⟩:=b6k hw he hp hv ht;have h3:=b7k h.events p.2.txn e.table p.1;rw[Zk (n:=p.2.n+1) (by omega),b4H,a3C,b1z hw,decide_eq_true_eq,decide_eq_true_eq,Vs.eq_iff];simp only;constructor
   ·rintro⟨_,g|g⟩
    ·omega
    ·exact⟨ht,by omega⟩
   ·rintro⟨_,g⟩;exact⟨ht, .inr (by omega)⟩
theorem b0l{α:Type}{p q:α->Bool}{l:List α}(h:∀x,x∈l->p x=q x):l.any p=l.any q:=by
 induction l with
 |nil=>rfl
 |cons x l ih=>rw[c9B,c9B,h x a4E,ih fun y hy=>h y (a9C _ hy)]
theorem b1l(hw:Zo h)(level:Int)(e:Ev):Cu h.events level e=decide (Xd h.events e.txn=5/\level<=W6 h.events e.txn):=by
 unfold Cu;simp only[b4k hw,b5k hw]
theorem b2l(h:Hs)(level:Int):YF h level (VQ h.events)=SA h level 1:=by
 unfold YF SA
 by_cases hw:Zo h
 ·rw[if_pos hw,if_pos hw]
  refine b1k fun e he=>?_
  unfold VI Vf;rw[b1l hw,b0l fun p _=>b8k hw]
 ·rw[if_neg hw,if_neg hw]
theorem b3l(hl:h.events.length<2^40)(level:Int):YF h level (V6 h.events)=SA h level 2:=by
 unfold YF SA
 by_cases hw:Zo h
 ·rw[if_pos hw,if_pos hw]
  refine b1k fun e he=>?_
  unfold VI Vf;rw[b1l hw,b0l fun p hp=>b9k hw hl he hp]
 ·rw[if_neg hw,if_neg hw]
theorem b4l(level:Int)(bad:Ev->Vl->Vs->Bool): -1<=YF h level bad:=by
 unfold YF;split
 ·exact b3k _ _
 ·omega
theorem b5l(hw:Zo h)(t:Int):Yb h.events t<=5:=by
 unfold Yb
 cases hl:Wr (Ev.UP t) h.events with
 |none=>simp
 |some e=>
  obtain⟨h1,h2⟩:=MS hl;obtain⟨i,hi⟩:=a9B h1;simp only[Ev.UP,a3C,decide_eq_true_eq]at h2;have:=(MT hw hi).1.1;simp only[Option.map_some,Option.getD_some];obtain⟨_,_,_,_,h5,_⟩:=this;have:=h5 h2.1;omega
theorem b6l(bad:Ev->Vl->Vs->Bool):YF h 6 bad= -1:=by
 unfold YF
 by_cases hw:Zo h
 ·rw[if_pos hw,Di];intro e _;unfold VI Cu;have:=b5l hw e.txn;rw[decide_eq_false (fun g=>by omega)];rfl
 ·rw[if_neg hw]
end
section
variable{l:List Eg}{ok:Eg->Bool}
end
theorem Eg.I3{a b:Eg}:a=b↔a.Z4=b.Z4/\a.to=b.to/\a.kind=b.kind/\a.table=b.table/\a.key.text=b.key.text/\a.key.n=b.key.n/\a.key.s=b.key.s/\a.Zw=b.Zw:=by
 obtain⟨a1,a2,a3,a4,⟨a5,a6,a7⟩,a8⟩:=a;obtain⟨b1,b2,b3,b4,⟨b5,b6,b7⟩,b8⟩:=b;simp[and_assoc]
def VP(l:List Eg):Prop:=l≠[]/\∀i a b,l[i]? =some a->l[(i+1)%l.length]? =some b->a.to=b.Z4/\a.to∉(l.map Eg.to).take i
def Cn(l:List Eg)(i:Nat):Prop:=∀a b,l[i]? =some a->l[(i+1)%l.length]? =some b->a.to=b.Z4/\a.to∉(l.map Eg.to).take i
theorem f4O{l:List Eg}{i:Nat}(ZV:l≠[])(hi:l.length<=i)(h:ZK i (Cn l)):VP l:=
 ⟨ZV,fun k a b ha hb=>h k (by have:=(a5y.1 ha).1;omega) a b ha hb⟩
theorem b2s(i n:Nat):((i:Int)+1).tmod (n:Int)=((i+1)%n:Nat):=by
 rw[Int.tmod_eq_emod_of_nonneg (by omega),Int.natCast_emod,c0O];rfl
open Classical in
theorem b3s(l:List Eg)(hl:l.length<2^62):ZX prog true N9 [.iv (ZW l)] [] (vb (decide (VP l))) []:=by
 refine YG lZ (by simp) (by decide) rfl ?_
 by_cases ZV:l=[]
 ·subst ZV
  have:¬VP []:=fun h=>h.1 rfl
  simp-dsimp[a1l,ZW,ZM,this]
 ·have W0:=a6I.2 ZV
  have NI:¬(l.length:Int)=0:=by omega
  simp-dsimp[a1l,ZW,NI,ZV];refine YJ [] [4] l.length (fun i=>⟨[(3,vi i),(0, .iv (.Z6 8 (ZM l)))],[]⟩) (fun i=>ZK i (Cn l)) ?_ TP ?_
  ·simp-dsimp
  ·intro i hi hq;simp-dsimp[FK];refine⟨fun Z2=>?_,fun X9=>f4O ZV X9 hq⟩;obtain⟨x,hx⟩:=Zr Z2;obtain⟨y,hy⟩:=Zr (l:=l) (i:=(i+1)%l.length) (Nat.mod_lt _ W0);have hw:=Zk (n:=(i:Int)+1) (by omega);have hm:=b2s i l.length;obtain⟨j,hj⟩:∃j,(i+1)%l.length=j:=⟨_,rfl⟩;rw[hj]at hm hy
   have UH:Cn l i↔x.to=y.Z4/\x.to∉(l.map Eg.to).take i:=by
    constructor
    ·exact fun h=>h x y hx (by rw[hj];exact hy)
    ·intro h a b ha hb;rw[hx]at ha;cases ha;rw[hj,hy]at hb;cases hb;exact h
   have YQ:¬Cn l i->¬VP l:=fun h g=>h (g.2 i)
   by_cases R9:x.to=y.Z4
   ·simp-dsimp[hx,hy,hw,ZV,hm,R9,Eg.cells,YB];refine⟨by omega,ZN (d:=39) (e1s (l.take i) (by simp;omega) y.Z4) (by simp[ZW,ZM]) (by simp[ZW]) ?_⟩;rw[R9]at UH;rw[c7D]
    cases hmt:decide (y.Z4∈(l.map Eg.to).take i)with
    |true=>
     simp only[decide_eq_true_eq]at hmt;have hnv:=YQ (by rw[UH];exact fun h=>h.2 hmt);simp-dsimp[hnv]
    |false=>
     simp only[decide_eq_false_iff_not]at hmt;simp-dsimp[hw];exact⟨Z2,hq.succ (UH.2 ⟨rfl,hmt⟩)⟩
   ·have hnv:=YQ (by rw[UH];exact fun h=>R9 h.1);simp-dsimp[hx,hy,hw,ZV,hm,R9,Eg.cells,YB,hnv]
end Go.Rt
end

section
namespace Go.Rt
open Go.Vm
def fwd(row:List Int)(e:Eg):Bool:=decide (W8 row e.Z4<0\/W8 row e.to<0\/W8 row e.Z4<W8 row e.to)
theorem b7m(l:List Eg)(row:List Int)(hl:l.length<2^62)(hr:row.length<2^62):ZX prog true GH [.iv (ZW l), .iv (YI row)] [] (vb (l.all (fwd row))) []:=by
 refine YG mg (by simp) (by decide) rfl ?_;simp-dsimp[a3l,ZW,YI];refine YJ [] [] l.length (fun i=>⟨[(5,vi i),(0, .iv (.Z6 8 (ZM l))),(1, .iv (.Z6 1 (YW row)))],[]⟩) (fun i=>ZK i fun j=>∀e,l[j]? =some e->fwd row e=true) ?_ TP ?_
 ·simp-dsimp
 ·intro i hi hq;simp-dsimp[FO];refine⟨fun Z2=>?_,fun X9=>?_⟩
  ·obtain⟨e,he⟩:=Zr Z2;have hw:=Zk (n:=(i:Int)+1) (by omega);simp-dsimp[he,Eg.cells];refine ZN (e9r row hr e.Z4) (by simp[YI]) (by simp[YI]) ?_;simp-dsimp[he,Eg.cells];refine ZN (e9r row hr e.to) (by simp[YI]) (by simp[YI]) ?_
   have YQ:fwd row e=false->l.all (fwd row)=false:=fun hf=>by
    rw[List.all_eq_false];exact⟨e,a6y he,by rw[hf];simp⟩
   have hfw:fwd row e=decide (W8 row e.Z4<0\/W8 row e.to<0\/W8 row e.Z4<W8 row e.to):=rfl
   have Tp:fwd row e=true->ZK (i+1) fun j=>∀e,l[j]? =some e->fwd row e=true:=fun h=>hq.succ fun y hy=>by rw[he]at hy;cases hy;exact h
   generalize W8 row e.Z4=a at*;generalize W8 row e.to=c at*
   by_cases h1:0<=a
   ·by_cases h2:0<=c
    ·by_cases h3:c<=a
     ·have hf:=YQ (by rw[hfw];simp;omega);simp-dsimp[h1,h2,h3,hf]
     ·have hf:=Tp (by rw[hfw];simp;omega);simp-dsimp[h1,h2,h3,hw];exact⟨Z2,hf⟩
    ·have hf:=Tp (by rw[hfw];simp;omega);simp-dsimp[h1,h2,hw];exact⟨Z2,hf⟩
   ·have hf:=Tp (by rw[hfw];simp;omega);simp-dsimp[h1,hw];exact⟨Z2,hf⟩
  ·have:=HQ X9 hq;simpa using this
end Go.Rt
end

section
namespace Go.Rt
def Ks:List Int->Option Int
 | []=>none
 |x::r=>match Ks r with
  |none=>some x
  |some y=>some (if x<=y then x else y)
theorem c0c{l:List Int}:Ks l=none↔l=[]:=by
 cases l with
 |nil=>simp[Ks]
 |cons x r=>simp only[Ks];cases Ks r<;>simp
theorem c1c:∀{l:List Int} {n:Int},Ks l=some n->n∈l/\∀m,m∈l->n<=m
 | [],n,h=>by cases h
 |x::r,n,h=>by
  simp only[Ks]at h
  cases hr:Ks r with
  |none=>
   rw[hr]at h;have:=c0c.1 hr;subst this;cases h;simp
  |some y=>
   rw[hr]at h;obtain⟨h1,h2⟩:=c1c hr;simp only[a3y]at h;subst h;split
   ·rename_i g;refine⟨a4E,fun m hm=>?_⟩
    rcases a5E.1 hm with rfl|hm
    ·omega
    ·have:=h2 m hm;omega
   ·rename_i g;refine⟨a9C _ h1,fun m hm=>?_⟩
    rcases a5E.1 hm with rfl|hm
    ·omega
    ·exact h2 m hm
theorem c2c{l:List Int}{n:Int}(h1:n∈l)(h2:∀m,m∈l->n<=m):Ks l=some n:=by
 cases h:Ks l with
 |none=>rw[c0c.1 h]at h1;cases h1
 |some y=>
  obtain⟨g1,g2⟩:=c1c h;have:=h2 y g1;have:=g2 n h1
  congr 1;omega
theorem c3c{l l':List Int}(h:∀x,x∈l↔x∈l'):Ks l=Ks l':=by
 cases h':Ks l' with
 |none=>
  have:=c0c.1 h';subst this;rw[c0c]
  cases l with
  |nil=>rfl
  |cons a r=>exact absurd ((h a).1 a4E) (by simp)
 |some n=>
  obtain⟨g1,g2⟩:=c1c h'
  exact c2c ((h n).2 g1) fun m hm=>g2 m ((h m).1 hm)
def T2(E:List (Int×Int))(L:List Int)(n:Int):Bool:= !(E.any fun e=>decide (e.2=n/\e.1∈L))
theorem c5c{E:List (Int×Int)}{L:List Int}{n:Int}:T2 E L n=true↔∀e,e∈E->e.2=n->e.1∉L:=by
 unfold T2;rw[Bool.not_eq_true',List.any_eq_false];simp only[decide_eq_true_eq,not_and]
theorem c6c{E:List (Int×Int)}{L:List Int}{n:Int}:T2 E L n=false↔∃e,e∈E/\e.2=n/\e.1∈L:=by
 unfold T2;rw[Bool.not_eq_false',b9G];simp only[decide_eq_true_eq]
theorem c7c{E:List (Int×Int)}{L L':List Int}(h:∀x,x∈L↔x∈L')(n:Int):T2 E L n=T2 E L' n:=by
 unfold T2;simp only[h]
def MY(E:List (Int×Int))(L:List Int):Option Int:=Ks (L.filter (T2 E L))
theorem c9c{E:List (Int×Int)}{L:List Int}:MY E L=none↔∀n,n∈L->T2 E L n=false:=by
 unfold MY;rw[c0c,b3Z];simp only[Bool.not_eq_true]
theorem c0d{E:List (Int×Int)}{L:List Int}{n:Int}(h:MY E L=some n):n∈L/\T2 E L n=true/\∀m,m∈L->T2 E L m=true->n<=m:=by
 obtain⟨h1,h2⟩:=c1c h;rw[a2E]at h1;exact⟨h1.1,h1.2,fun m hm hf=>h2 m (a2E.2 ⟨hm,hf⟩)⟩
theorem c1d{E:List (Int×Int)}{L:List Int}{n:Int}(h1:n∈L)(h2:T2 E L n=true)(h3:∀m,m∈L->T2 E L m=true->n<=m):MY E L=some n:=
 c2c (a2E.2 ⟨h1,h2⟩) fun m hm=>by rw[a2E]at hm;exact h3 m hm.1 hm.2
theorem c2d{E:List (Int×Int)}{L L':List Int}(h:∀x,x∈L↔x∈L'):MY E L=MY E L':=
 c3c fun x=>by rw[a2E,a2E,h x,c7c h x]
def HC(E:List (Int×Int)):Nat->List Int->Option (List Int)
 | 0,_=>some []
 |k+1,L=>if L=[]then some []else match MY E L with
  |none=>none
  |some n=>(HC E k (L.filter fun x=>decide (x≠n))).map (n:: ·)
theorem c3d{E:List (Int×Int)}:∀k,HC E k []=some []
 | 0=>rfl
 | _+1=>rfl
theorem c4d{L L':List Int}(h:∀x,x∈L↔x∈L'):L=[]↔L'=[]:=by
 rw[c5I,c5I];simp only[h]
theorem c5d{L:List Int}{n:Int}(h:n∈L):(L.filter fun x=>decide (x≠n)).length<L.length:=by
 rw[List.length_filter_lt_length_iff_exists];exact⟨n,h,by simp⟩
theorem c6d{E:List (Int×Int)}:∀(k k':Nat) {L L':List Int},(∀x,x∈L↔x∈L')->L.length<=k->L'.length<=k'->HC E k L=HC E k' L':=by
 intro k
 induction k with
 |zero=>
  intro k' L L' h h1 h2;have:L=[]:=a1S.1 (by omega);subst this;rw[(c4d h).1 rfl];simp only[c3d]
 |succ k ih=>
  intro k' L L' h h1 h2
  by_cases hL:L=[]
  ·subst hL;rw[(c4d h).1 rfl];simp only[c3d]
  ·have hL':L'≠[]:=fun e=>hL ((c4d h).2 e)
   cases k' with
   |zero=>exact absurd (a1S.1 (by omega)) hL'
   |succ k'=>
    simp only[HC,if_neg hL,if_neg hL',c2d h]
    cases hn:MY E L' with
    |none=>rfl
    |some n=>
     have SV:=(c0d hn).1;have hm:=(h n).2 SV;have:=c5d hm;have:=c5d SV;simp only[];rw[ih k' (L:=L.filter fun x=>decide (x≠n)) (L':=L'.filter fun x=>decide (x≠n)) (fun x=>by rw[a2E,a2E,h x]) (by omega) (by omega)]
def WY(E:List (Int×Int))(L:List Int):Option (List Int):=HC E L.length L
theorem c7d{E:List (Int×Int)}:WY E []=some []:=rfl
theorem c8d{E:List (Int×Int)}{L L':List Int}(h:∀x,x∈L↔x∈L'):WY E L=WY E L':=c6d _ _ h (a8F _) (a8F _)
theorem c9d{E:List (Int×Int)}{L:List Int}(hL:L≠[])(h:MY E L=none):WY E L=none:=by
 unfold WY;obtain⟨k,hk⟩:∃k,L.length=k+1:=⟨L.length-1,by have:=a6I.2 hL;omega⟩;rw[hk];simp only[HC,if_neg hL,h]
theorem c0e{E:List (Int×Int)}{L L':List Int}{n:Int}(h:MY E L=some n)(hL':∀x,x∈L'↔x∈L/\x≠n):WY E L=(WY E L').map (n:: ·):=by
 have hm:=(c0d h).1;have hL:=c3u hm;have hd:=c5d hm;unfold WY;obtain⟨k,hk⟩:∃k,L.length=k+1:=⟨L.length-1,by have:=a6I.2 hL;omega⟩;rw[hk];simp only[HC,if_neg hL,h];rw[c6d k L'.length (L:=L.filter fun x=>decide (x≠n)) (L':=L') (fun x=>by rw[a2E,hL' x];simp) (by omega) (a8F _)]
theorem c1e{E:List (Int×Int)}:∀(k:Nat) {L:List Int},HC E k L=none->∃K:List Int,K≠[]/\(∀x,x∈K->x∈L)/\∀n,n∈K->∃e,e∈E/\e.2=n/\e.1∈K:=by
 intro k
 induction k with
 |zero=>intro L h;cases h
 |succ k ih=>
  intro L h;simp only[HC]at h;split at h
  ·cases h
  ·rename_i hL
   cases hn:MY E L with
   |none=>exact⟨L,hL,fun _ h=>h,fun n hm=>c6c.1 (c9c.1 hn n hm)⟩
   |some n=>
    rw[hn]at h;simp only[Option.map_eq_none_iff]at h;obtain⟨K,h1,h2,h3⟩:=ih h;exact⟨K,h1,fun x hx=>(a2E.1 (h2 x hx)).1,h3⟩
theorem c2e{E:List (Int×Int)}{L:List Int}(h:WY E L=none):∃K:List Int,K≠[]/\(∀x,x∈K->x∈L)/\∀n,n∈K->∃e,e∈E/\e.2=n/\e.1∈K:=c1e _ h
theorem c3e{E:List (Int×Int)}:∀(k:Nat) {L s:List Int},L.length<=k->HC E k L=some s->
 (∀x,x∈s↔x∈L)/\s.Nodup/\∀e,e∈E->e.1∈L->e.2∈L->s.idxOf e.1<s.idxOf e.2:=by
 intro k
 induction k with
 |zero=>
  intro L s hk h;have:L=[]:=a1S.1 (by omega);subst this;cases h;simp
 |succ k ih=>
  intro L s hk h;simp only[HC]at h;split at h
  ·rename_i hL;subst hL;cases h;simp
  ·cases hn:MY E L with
   |none=>rw[hn]at h;cases h
   |some n=>
    rw[hn]at h;simp only[a9R]at h;obtain⟨s',h1,rfl⟩:=h;obtain⟨g1,g2,g3⟩:=c0d hn;have:=c5d g1;obtain⟨i1,i2,i3⟩:=ih (by omega) h1
    have WA:∀x,x∈s'↔x∈L/\x≠n:=fun x=>by rw[i1 x,a2E];simp
    refine⟨fun x=>?_,b2H.2 ⟨fun h=>((WA n).1 h).2 rfl,i2⟩,fun e he ha hb=>?_⟩
    ·rw[a5E,WA]
     by_cases hx:x=n
     ·subst hx;simp[g1]
     ·simp[hx]
    ·have UZ:e.2≠n:=fun h=>c5c.1 g2 e he h ha
     rw[d1A,d1A]
     have g6x:(n==e.2)=false:=by simpa using fun h:n=e.2=>UZ h.symm
     rw[g6x]
     by_cases han:e.1=n
     ·rw[han];simp
     ·have g7x:(n==e.1)=false:=by simpa using fun h:n=e.1=>han h.symm
      rw[g7x];have:=i3 e he (a2E.2 ⟨ha,by simpa using han⟩) (a2E.2 ⟨hb,by simpa using UZ⟩);simpa using this
theorem c4e{E:List (Int×Int)}{L s:List Int}(h:WY E L=some s):(∀x,x∈s↔x∈L)/\s.Nodup/\∀e,e∈E->e.1∈L->e.2∈L->s.idxOf e.1<s.idxOf e.2:=
 c3e _ (a8F _) h
inductive Tv (G:Gr):Int->Int->Prop
 |refl (a:Int):Tv G a a
 |step {a b c:Int}:M9 G a b->Tv G b c->Tv G a c
section
variable{G:Gr}{s:Nat}
theorem Tv.trans{a b c:Int}(h:Tv G a b)(h2:Tv G b c):Tv G a c:=by
 induction h with
 |refl=>exact h2
 |step h _ ih=>exact .step h (ih h2)
theorem Tv.one{a b:Int}(h:M9 G a b):Tv G a b:= .step h (.refl b)
theorem Tv.closed{a b:Int}(h:Tv G a b){C:List Int}(hC:∀a b,a∈C->M9 G a b->b∈C)(ha:a∈C):b∈C:=by
 induction h with
 |refl=>exact ha
 |step h _ ih=>exact ih (hC _ _ ha h)
theorem Way.snoc{d:Nat}{p:List Nat}{k:Nat}(h:Way G s (d+1) (p++[k])):Way G s d p/\G.ok k=true/\k<G.m/\G.F k=nd G p:=by
 have hl:=h.len;simp only[a7J,b4p]at hl
 have hp:p≠[]:=fun e=>by rw[e]at hl;simp at hl
 refine⟨⟨by omega,fun x hx=>h.WM x (a7N _ hx),?_,?_,?_,?_⟩,?_,h.WM k (by simp),?_⟩
 ·have:=h.nodup;rw[a5M]at this;exact(b6n.1 this).1
 ·have:=h.head
  cases p with
  |nil=>exact absurd rfl hp
  |cons a r=>exact this
 ·intro x hx;refine h.ok x ?_;rw[c7P hp];exact a7N _ hx
 ·intro i a b ha hb;exact h.step i a b (by rw[a9L (a5y.1 ha).1];exact ha) (by rw[a9L (a5y.1 hb).1];exact hb)
 ·refine h.ok k ?_;rw[c7P hp];simp
 ·have h1:(p++[k])[d]? =some (He p):=by
   rw[a9L (by omega)];unfold He;rw[List.getLast?_eq_getElem?,show p.length-1=d by omega]
   cases hd:p[d]? with
   |none=>rw[List.getElem?_eq_none_iff]at hd;omega
   |some x=>rfl
  exact h.step d (He p) k h1 (by rw[List.getElem?_append_right (by omega),show d+1-p.length=0 by omega];rfl)
theorem Way.reach:∀{d:Nat} {p:List Nat},Way G s d p->Tv G (G.T s) (nd G p)
 | 0,p,h=>by
  have hl:=h.len;have hh:=h.head;obtain⟨a,rfl⟩:∃a,p=[a]:=List.length_eq_one_iff.1 (by omega);cases hh;exact .refl _
 |d+1,p,h=>by
  have hl:=h.len
  have hp:p≠[]:=fun e=>by rw[e]at hl;simp at hl
  obtain⟨q,k,rfl⟩:∃q k,p=q++[k]:=⟨p.dropLast,p.getLast hp,(c0N hp).symm⟩;obtain⟨h1,h2,h3,h4⟩:=h.snoc;have:=h1.reach;rw[Ow];exact this.trans (.one ⟨k,h3,h2,h4,rfl⟩)
theorem a0y(hs:s<G.m):WX G s≠[]↔Tv G (G.T s) (G.F s):=by
 constructor
 ·intro h;obtain⟨D,h1,h2⟩:=mV hs h;rw[<-h2];exact h1.reach
 ·intro h hc;obtain⟨C,h1,h2,h3⟩:=b8E hs hc;exact h2 (h.closed h3 h1)
theorem Tv.g0v{f:Int->Int}(hf:∀a b,M9 G a b->f a<f b){a b:Int}(h:Tv G a b):f a<=f b:=by
 induction h with
 |refl=>exact d3t _
 |step h _ ih=>have:=hf _ _ h;omega
theorem a1y{f:Int->Int}(hf:∀a b,M9 G a b->f a<f b)(hs:s<G.m)(ho:G.ok s=true):WX G s=[]:=a9M fun h=>by
 have h1:=((a0y hs).1 h).g0v hf;have h2:=hf (G.F s) (G.T s) ⟨s,hs,ho,rfl,rfl⟩;omega
theorem a2y{K:List Int}(hK:K≠[])(h:∀n,n∈K->∃a,a∈K/\M9 G a n):∃s,s<G.m/\G.ok s=true/\WX G s≠[]:=a9M fun YQ=>by
 have g1v:∀a b,M9 G a b->¬Tv G b a:=fun a b ⟨k,h1,h2,h3,h4⟩ hr=>YQ ⟨k,h1,h2,(a0y h1).2 (by rw[h3,h4];exact hr)⟩
 have key:∀j:Nat,∃(a:Int) (R:List Int),(a::R).length=j+1/\(a::R).Nodup/\(∀x,x∈a::R->x∈K)/\∀x,x∈a::R->Tv G a x:=by
  intro j
  induction j with
  |zero=>
   obtain⟨a,ha⟩:=List.exists_mem_of_ne_nil K hK;refine⟨a,[],rfl,by simp,fun x hx=>?_,fun x hx=>?_⟩
   ·rw[a1B.1 hx];exact ha
   ·rw[a1B.1 hx];exact .refl a
  |succ j ih=>
   obtain⟨a,R,h1,h2,h3,h4⟩:=ih;obtain⟨b,hb,hba⟩:=h a (h3 a a4E);refine⟨b,a::R,by rw[a4S,h1],b2H.2 ⟨fun hm=>g1v b a hba (h4 b hm),h2⟩,fun x hx=>?_,fun x hx=>?_⟩
   ·rcases a5E.1 hx with rfl|hx
    ·exact hb
    ·exact h3 x hx
   ·rcases a5E.1 hx with rfl|hx
    ·exact .refl _
    ·exact .step hba (h4 x hx)
 obtain⟨a,R,h1,h2,h3,_⟩:=key K.length;have:=oW h2 h3;omega
end
end Go.Rt
end

section
namespace Go.Rt
open Go.Vm
section
variable{l:List Eg}{ok:Eg->Bool}
theorem c9F{s:Nat}(hs:s<l.length):∀k,k∈WX (ZP l ok) s->k<l.length:=by
 intro k hk
 by_cases h:WX (ZP l ok) s=[]
 ·rw[h]at hk;cases hk
 ·obtain⟨D,hw,_⟩:=mV (G:=ZP l ok) hs h;exact hw.WM k hk
theorem c0G{first:Nat->Bool}:∀k,k∈HF (ZP l ok) first->k<l.length:=by
 intro k hk;obtain⟨i,h1,h2,h3,_⟩:=b9F (c3u hk);rw[h3]at hk;exact c9F h1 k hk
theorem c1G{fs rs:List Int}:Zh l fs rs≠[]↔HF (ZP l (YP rs)) (Rm l fs)≠[]:=by
 have:=Ha (l:=l) (p:=HF (ZP l (YP rs)) (Rm l fs)) c0G;unfold Zh;rw[<-a6I, <-a6I,this]
theorem FT{a b:Int}:M9 (ZP l ok) a b↔∃e,e∈l/\ok e=true/\e.Z4=a/\e.to=b:=by
 constructor
 ·rintro⟨k,h1,h2,h3,h4⟩;obtain⟨e,he⟩:=Zr (l:=l) h1;rw[a8B he]at h2;rw[RK he]at h3;rw[SE he]at h4;exact⟨e,a6y he,h2,h3,h4⟩
 ·rintro⟨e,h1,h2,h3,h4⟩;obtain⟨k,he⟩:=a9B h1;exact⟨k,(a5y.1 he).1,by rw[a8B he];exact h2,by rw[RK he];exact h3,by rw[SE he];exact h4⟩
theorem c3G{fs:List Int}{i:Nat}{e:Eg}(he:l[i]? =some e):Rm l fs i=YP fs e:=by simp[Rm,he]
theorem FR{fs rs:List Int}:Zh l fs rs≠[]↔∃e,e∈l/\YP fs e=true/\Tv (ZP l (YP rs)) e.to e.Z4:=by
 rw[c1G];constructor
 ·intro h;obtain⟨i,h1,h2,_,h4,_⟩:=b9F h;obtain⟨e,he⟩:=Zr (l:=l) h1;have:=(a0y h1).1 h4;rw[SE he,RK he]at this;exact⟨e,a6y he,by rw[<-c3G he];exact h2,this⟩
 ·rintro⟨e,h1,h2,h3⟩ h;obtain⟨i,he⟩:=a9B h1;have hi:i<(ZP l (YP rs)).m:=(a5y.1 he).1;refine(a0y hi).2 ?_ (b0G h hi (by rw[c3G he];exact h2));rw[SE he,RK he];exact h3
theorem c5G{α:Type}{l:List α}(h:l.Nodup){i:Nat}{x:α}(hx:l[i]? =some x):x∉l.take i:=by
 intro hm;obtain⟨j,hj⟩:=a9B hm;have Ce:=(a5y.1 hj).1;rw[a3U]at Ce;rw[List.getElem?_take_of_lt (by omega)]at hj;obtain⟨a1,a2⟩:=a5y.1 hx;obtain⟨b1,b2⟩:=a5y.1 hj;have:=(d8t (xs:=l) (h₀:=b1) (h₁:=a1) h).1 (by rw[a2,b2]);omega
theorem c6G{s:Nat}(hs:s<l.length)(h:WX (ZP l ok) s≠[]):VP (pick l (WX (ZP l ok) s)):=by
 obtain⟨D,hw,hn⟩:=mV (G:=ZP l ok) hs h;generalize WX (ZP l ok) s=p at*;have XZ:∀k,k∈p->k<l.length:=hw.WM;have Ul:=Ha XZ;have hto:=a5C (ok:=ok) XZ;have W0:=a6I.2 h;refine⟨fun e=>by rw[e]at Ul;simp only[c2i]at Ul;omega,fun i a b ha hb=>⟨?_,?_⟩⟩
 ·have Zd:=(a5y.1 ha).1;rw[Ul]at Zd hb;rw[a4C XZ]at ha hb;obtain⟨x,hx,hxa⟩:=b6v.1 ha;obtain⟨y,hy,hyb⟩:=b6v.1 hb;rw[<-SE (ok:=ok) hxa, <-RK (ok:=ok) hyb]
  by_cases hi:i+1<p.length
  ·rw[Nat.mod_eq_of_lt hi]at hy;exact(hw.step i x y hx hy).symm
  ·have VR:i+1=p.length:=by omega
   rw[VR,Nat.mod_self]at hy;have h0:=hw.head;rw[List.head?_eq_getElem?,hy]at h0;cases h0;rw[<-hn];unfold nd He;rw[List.getLast?_eq_getElem?,show p.length-1=i by omega,hx];rfl
 ·rw[hto];have VM:=hw.nodup;refine c5G VM ?_;rw[<-hto,a1C,ha];rfl
theorem c7G{fs rs:List Int}(h:Zh l fs rs≠[]):VP (Zh l fs rs)/\(∀e,e∈Zh l fs rs->e∈l)/\(∃e,(Zh l fs rs)[0]? =some e/\YP fs e=true)/\∀i e,(Zh l fs rs)[i+1]? =some e->YP rs e=true:=by
 obtain⟨s,h1,h2,h3,h4,_⟩:=b9F (c1G.1 h);have Sm:s<l.length:=h1
 have hf:Zh l fs rs=pick l (WX (ZP l (YP rs)) s):=by unfold Zh;rw[h3]
 rw[hf];obtain⟨e,he⟩:=Zr (l:=l) Sm;refine⟨c6G Sm h4,fun x hx=>?_,⟨e,by rw[b2T he h4];rfl,by rw[<-c3G he];exact h2⟩,fun i x hx=>?_⟩
 ·unfold pick at hx;obtain⟨k,_,hk⟩:=List.mem_filterMap.1 hx;exact a6y hk
 ·obtain⟨D,hw,_⟩:=mV (G:=ZP l (YP rs)) h1 h4;rw[a4C hw.WM]at hx;obtain⟨k,hk,hkx⟩:=b6v.1 hx;rw[<-a8B (ok:=YP rs) hkx];refine hw.ok k ?_;refine a6y (i:=i) ?_;rw[c1E];exact hk
end
theorem c8G{l:List Int}{x:Int}(h:x∈l):W8 l x=l.idxOf x:=by
 have hl:l.idxOf x<l.length:=List.idxOf_lt_length_of_mem h
 refine c9y (e:=x) ?_ rfl fun j hj y hy he=>?_
 ·rw[List.getElem?_eq_getElem hl,List.getElem_idxOf]
 ·subst he;have:=List.not_of_lt_findIdx (p:=(· ==x)) (xs:=l) (i:=j) hj;obtain⟨a1,a2⟩:=a5y.1 hy;rw[a2]at this;simp at this
theorem c9G{l:List Int}{x:Int}(h:x∉l):W8 l x<0:=by
 have:=c8y (l:=l) (x:=x)
 by_cases hp:0<=W8 l x
 ·exact absurd (this.1 hp) h
 ·omega
theorem d5B(l:List Int):(Xo l).Pairwise (· <= ·):=by
 have:=List.pairwise_mergeSort (le:=fun x y:Int=>decide (x<=y)) (by intro a b c;simp;omega) (by intro a b;simp;omega) l;simpa[Xo]using this
theorem d6B(l:List Int)(t:Int):t∈Xo l↔t∈l:=d3k
theorem d7B(xs:List Int)(hl:xs.length<2^62):ZX prog false Qb [.sl 16 1 0 xs.length] [(16, .list 1 (YW xs))] (.Zp []) [(16, .list 1 (YW (Xo xs)))]:=
 (c1N xs hl).Zl (Ren.Xe [(1000,16)]) rfl
theorem d8B:ZX prog true Qb [.iv (.Z6 1 [])] [] (.Zp []) []:=
 d6z fun p cap w=>Go.Proofs.Any.slices_Sort_int_none Go.Proofs.Tryz.lays189 p cap w
theorem d9B:ZX prog true K5 [.iv (.Z6 1 [])] [] (.iv (.Z6 1 [])) []:=
 b6R fun p cap w=>Go.Proofs.Tryz.slices_Compact_int_empty p cap w
def C1(xs:List Int):List Int:=Go.Lib.compact (Xo xs)
theorem d1C{xs:List Int}{x:Int}:x∈C1 xs↔x∈xs:=by unfold C1;rw[b7R,d6B]
theorem d2C(xs:List Int):(C1 xs).Pairwise (· < ·):=b8R (d5B xs)
theorem d3C(xs:List Int):(C1 xs).length<=xs.length:=by have:=b9R (Xo xs);rw[KH]at this;exact this
theorem d4C(xs:List Int)(ZV:xs≠[])(hl:xs.length<2^62):∃js:List Int,js.length=xs.length-(C1 xs).length∧
 ZX prog false K5 [.sl 16 1 0 (Xo xs).length] [(16, .list 1 (YW (Xo xs)))] (.sl 16 1 0 (C1 xs).length) [(16, .list 1 (YW (C1 xs++js)))]:=by
 have hle:=b9R (Xo xs)
 have lA:Xo xs≠[]:=fun h=>ZV (a1S.1 (by rw[<-KH,h];rfl))
 have h:=b5R (P:=prog) (f:=K5) (Xo xs) (Go.Lib.compact (Xo xs)++a2N ((Xo xs).length-(Go.Lib.compact (Xo xs)).length) 0) [] (Go.Lib.compact (Xo xs)).length []
  (by rw[a7J,c3B];omega) hle lA
  (fun Wh off cap w hH WT hm=>Go.Proofs.Tryz.slices_Compact_int Wh off cap (Xo xs) w hH (by rw[KH];omega) WT)
 refine⟨a2N ((Xo xs).length-(Go.Lib.compact (Xo xs)).length) 0,by rw[c3B,KH];rfl,?_⟩;rw[b9o,b9o]at h;exact h.Zl (Ren.Xe [(1000,16)]) rfl
theorem d5C(xs ys:List Int){k:Nat}(hk:k<xs.length)(hl:xs.length<2^62):
 ZX prog false Gj [.sl 16 1 0 xs.length,vi k,vi ((k:Int)+1)] [(16, .list 1 (YW (xs++ys)))] (.sl 16 1 0 (xs.eraseIdx k).length) [(16, .list 1 (YW (xs.eraseIdx k++(0::ys))))]:=by
 have he:xs.take k++xs.drop (k+1)=xs.eraseIdx k:=(c1H xs k).symm;have hlen:(xs.eraseIdx k).length=xs.length-1:=c7p hk
 have h:=b5R (P:=prog) (f:=Gj) xs (xs.eraseIdx k++[0]) ys (xs.eraseIdx k).length [.int .i64 k, .int .i64 ((k+1:Nat):Int)]
  (by simp only[a7J,b4p,hlen];omega) (by rw[hlen];omega) (fun h=>by rw[h]at hk;cases hk)
  (fun Wh off cap w hH WT hm=>by
   have:=Go.Proofs.Tryz.slices_Delete_int Wh off cap k (k+1) xs w hH WT hm (by omega) (by omega);rw[he,show k+1-k=1 by omega, <-hlen]at this
   exact this)
 rw[List.append_assoc]at h;exact h.Zl (Ren.Xe [(1000,16)]) rfl
theorem d6C(l:List Int):∀x∈YW l,∀y∈x,y.flat=true:=by
 intro x hx y hy;obtain⟨i,_,rfl⟩:=a0E.1 hx;simp only[a1B]at hy;subst hy;rfl
theorem d7C:ZX prog true RB [.iv (.Z6 1 [])] [] (.iv (.Z6 1 [])) []:=by
 refine e5w [2,5] ME (by simp) (by decide) rfl ?_;simp-dsimp[TO]
theorem d8C{l:List Int}(h:l≠[])(hl:l.length<2^40)(d:Nat):ZX prog true RB [.iv (YI l)] [] (.sl d 1 0 l.length) [(d, .list 1 (YW l))]:=by
 have hs:ZX prog true RB [.iv (YI l)] [] (.sl 5 1 0 (YW l).length) [(5, .list 1 (YW l))]:=by
  refine e0x 5 1 (YW l) ME (by simp) (by decide) (d6C l) ?_
  have ZV:YW l≠[]:=by simpa[YW]using h
  simp-dsimp[TO,YI,ZV];omega
 rw[e8c]at hs
 exact hs.fresh d rfl fun ρ=>rfl
def gD(D:List Int)(f:Int->Int):List Value->Option (List IV)
 | [.int .i64 k]=>if k∈D then some [ci (f k)]else none
 | _=>none
theorem d9C{D:List Int}{f:Int->Int}(k v:Int):ZH (gD D f) [.int .i64 k] (some [ci v])=gD (k::D) fun q=>if q=k then v else f q:=by
 funext q
 simp only[ZH];split
 ·rename_i e;subst e;simp[gD]
 ·rename_i ZV;unfold gD;split
  ·rename_i q'
   have:q'≠k:=by rintro rfl;exact ZV rfl
   simp[this]
  ·rfl
theorem d0D{D D':List Int}{f f':Int->Int}(h:∀x,x∈D↔x∈D')(hf:∀x,x∈D->f x=f' x):gD D f=gD D' f':=by
 funext q
 unfold gD;split
 ·rename_i k
  by_cases hk:k∈D
  ·rw[if_pos hk,if_pos ((h k).1 hk),hf k hk]
  ·rw[if_neg hk,if_neg fun h'=>hk ((h k).2 h')]
 ·rfl
theorem d1D{f:Int->Int}:(fun _=>none:List Value->Option (List IV))=gD [] f:=by
 funext q;unfold gD;split<;>simp
theorem d2D{D:List Int}{f:Int->Int}{k:Int}(h:k∈D):gD D f [.int .i64 k]=some [ci (f k)]:=by simp[gD,h]
theorem d3D{D:List Int}{f:Int->Int}{k:Int}(h:k∉D):gD D f [.int .i64 k]=none:=by simp[gD,h]
theorem d4D:XV prog P8=true:=by kernel_rfl
theorem d5D(D:List Int)(f:Int->Int)(hf:∀k,k∉D->f k=0)(n:Int):ZX prog true P8 [vi n, .iv (.pt [.mp H6 (gD D f)])] [] (vb (decide (f n=0))) []:=by
 refine YG f4v (by simp) (by decide) rfl ?_
 by_cases h:n∈D
 ·have:=d2D (f:=f) h;simp-dsimp[a1n,this];rfl
 ·have:=d3D (f:=f) h;have h0:=hf n h;simp-dsimp[a1n,this,h0]
theorem d6D(l:List Int)(hl:l.length<2^62)(D:List Int)(f:Int->Int)(hf:∀k,k∉D->f k=0):
 ZX prog true Gk [.iv (YI l), .fn P8 [] [.val (.pt [.mp H6 (gD D f)])]] [] (vi (Uv (fun n=>decide (f n=0)) l)) []:=by
 refine YG f5v (by simp) (by decide) rfl ?_;simp-dsimp[I1,YI];refine YJ [] [] l.length (fun i=>⟨[(8,vi i),(7,vi l.length),(0, .iv (.Z6 1 (YW l))),(1, .fn P8 [] [.val (.pt [.mp H6 (gD D f)])])],[]⟩) (fun i=>ZK i fun j=>∀e,l[j]? =some e->decide (f e=0)=false) ?_ TP ?_
 ·simp-dsimp
 ·intro i hi hq;simp-dsimp[DX];refine⟨fun Z2=>?_,fun X9=>?_⟩
  ·obtain⟨e,he⟩:=Zr Z2;have hw:=Zk (n:=(i:Int)+1) (by omega);simp-dsimp[he];refine⟨d4D,PH (d5D D f hf e) (by simp) (by simp) (by simp) ?_⟩
   by_cases h0:f e=0
   ·have:=Cq (p:=fun n=>decide (f n=0)) he (by simpa using h0) hq;simp-dsimp[h0,this]
   ·simp-dsimp[h0,hw];exact⟨Z2,ZK.succ (fun j hj y hy=>by simpa using hq j hj y hy) fun y hy=>by rw[he]at hy;cases hy;exact h0⟩
  ·rw[Di (HQ X9 hq)]
def VD(l:List Eg):List (Int×Int):=l.map fun e=>(e.Z4,e.to)
def Xk(es:List Eg)(L:List Int)(k:Int):Int:=((es.countP fun e=>decide (e.Z4∈L/\e.to=k):Nat):Int)
theorem c2m(L:List Int)(k:Int):Xk [] L k=0:=rfl
theorem c3m(es:List Eg)(e:Eg)(L:List Int)(k:Int):Xk (es++[e]) L k=Xk es L k+if e.Z4∈L/\e.to=k then 1 else 0:=by
 unfold Xk;rw[List.countP_append,d2u,List.countP_nil];simp only[decide_eq_true_eq,Nat.zero_add,c0O]
 congr 1
 split<;>rfl
theorem c4m(es:List Eg)(L:List Int)(k:Int):0<=Xk es L k/\Xk es L k<=es.length:=by
 unfold Xk;have:(es.countP fun e=>decide (e.Z4∈L/\e.to=k))<=es.length:=List.countP_le_length;omega
theorem c5m{es:List Eg}{L:List Int}{k:Int}:Xk es L k=0↔∀e,e∈es->e.to=k->e.Z4∉L:=by
 unfold Xk;rw[Int.natCast_eq_zero,List.countP_eq_zero];simp only[decide_eq_true_eq,not_and];exact⟨fun h e he h1 h2=>h e he h2 h1,fun h e he h1 h2=>h e he h2 h1⟩
theorem c6m{l:List Eg}{L:List Int}{k:Int}:decide (Xk l L k=0)=T2 (VD l) L k:=by
 rw[b4H,decide_eq_true_eq,c5m,c5c];constructor
 ·intro h e he h1 h2;obtain⟨x,hx,rfl⟩:=a0E.1 he;exact h x hx h1 h2
 ·exact fun h e he h1 h2=>h (e.Z4,e.to) (a0E.2 ⟨e,he,rfl⟩) h1 h2
theorem c7m{L L':List Int}{n:Int}(hn:n∈L)(h:∀x,x∈L'↔x∈L/\x≠n)(k:Int)(es:List Eg):Xk es L k=Xk es L' k+Xk es [n] k:=by
 induction es with
 |nil=>rfl
 |cons e es ih=>
  have h1:∀M,Xk (e::es) M k=Xk es M k+if e.Z4∈M/\e.to=k then 1 else 0:=fun M=>by
   unfold Xk;rw[d2u];simp only[decide_eq_true_eq,c0O]
   congr 1
   split<;>rfl
  rw[h1,h1,h1,ih];have h2:=h e.Z4
  by_cases ha:e.to=k
  ·by_cases hb:e.Z4=n
   ·have h3:e.Z4∈L:=hb▸hn
    have h4:e.Z4∉L':=fun hc=>(h2.1 hc).2 hb
    simp[ha,h3,h4,hb,hn];have h4':n∉L':=hb▸h4;simp[h4'];omega
   ·have h4:e.Z4∈L'↔e.Z4∈L:=by rw[h2];simp[hb]
    simp[ha,hb,h4];omega
  ·simp[ha]
def HB(es:List Eg)(L:List Int):List Int:=(es.filter fun e=>decide (e.Z4∈L)).map Eg.to
theorem c8m(L:List Int):HB [] L=[]:=rfl
theorem c9m(es:List Eg)(e:Eg)(L:List Int):HB (es++[e]) L=HB es L++if e.Z4∈L then[e.to]else[]:=by
 unfold HB;rw[b4j,a5M]
 congr 1
 by_cases h:e.Z4∈L<;>simp[h]
theorem c0n{es:List Eg}{L:List Int}{k:Int}(h:k∉HB es L):Xk es L k=0:=c5m.2 fun e he h1 h2=>
 h (a0E.2 ⟨e,a2E.2 ⟨he,by simpa using h2⟩,h1⟩)
theorem c1n(l r:List Int):(YW (l++r)).take l.length=YW l:=by
 unfold YW;rw[a5M,List.take_append_of_le_length (by simp),a0z (by simp)]
theorem c2n{l:List Int}(h:l.Pairwise (· < ·)):l.Nodup:=h.imp fun h e=>by omega
theorem c3n{l:List Int}(h:l.Nodup){k:Nat}{n:Int}(hk:l[k]? =some n)(x:Int):x∈l.eraseIdx k↔x∈l/\x≠n:=by
 rw[List.mem_eraseIdx_iff_getElem?];constructor
 ·rintro⟨i,hi,hx⟩;refine⟨a6y hx,?_⟩;rintro rfl;obtain⟨h1,h2⟩:=a5y.1 hk;obtain⟨h3,h4⟩:=a5y.1 hx;exact hi ((d8t (xs:=l) (h₀:=h3) (h₁:=h1) h).1 (by rw[h2,h4]))
 ·rintro⟨hx,ZV⟩;obtain⟨i,hi⟩:=a9B hx;refine⟨i,?_,hi⟩;rintro rfl;rw[hk]at hi;cases hi;exact ZV rfl
theorem c4n{l:List Eg}{L:List Int}(hL:L.Pairwise (· < ·)){k:Nat}{n:Int}(hk:L[k]? =some n)(h0:decide (Xk l L n=0)=true)(hn:∀j y,j<k->L[j]? =some y->decide (Xk l L y=0)=false):MY (VD l) L=some n:=by
 refine c1d (a6y hk) (by rw[<-c6m];exact h0) fun m hm hf=>?_
 obtain⟨j,hj⟩:=a9B hm
 by_cases hjk:j<k
 ·have:=hn j m hjk hj;rw[c6m,hf]at this;cases this
 ·obtain⟨h1,h2⟩:=a5y.1 hk;obtain⟨h3,h4⟩:=a5y.1 hj;rw[List.pairwise_iff_getElem]at hL
  by_cases e:j=k
  ·subst e;rw[hk]at hj;cases hj;omega
  ·have:=hL k j h1 h3 (by omega);omega
def Ir(l:List Eg)(row:List Int):AV:= .Zp [.iv (YI ((WY (VD l) row).getD [])),vb (WY (VD l) row).isSome]
theorem c5n(l:List Eg)(hl:l.length<2^40):ZX prog false N4 [.iv (ZW l), .iv (YI [])] [] (Ir l []) []:=by
 refine FA (by decide) E6 (by simp) (by decide) ?_;simp-dsimp[a0m];refine ZN d7C (by simp[YI,YW]) (by simp) ?_;simp-dsimp;refine ZN d8B (by simp) (by simp) ?_;simp-dsimp;refine ZN d9B (by simp) (by simp) ?_;simp-dsimp;refine YJ [4,7,21] [9] l.length (fun i=>⟨[(24,vi i),(23,vi l.length),(22, .iv (ZW l)),(6, .iv (.Z6 1 []))],[]⟩) (fun _=>True) ?_ trivial ?_
 ·simp[ZW]
 ·intro i hi _
  by_cases Zd:i<l.length
  ·obtain⟨e,he⟩:=Zr Zd;have hw:=Zk (n:=(i:Int)+1) (by omega);simp-dsimp[TE,ZW,he,Eg.cells,YB];refine⟨fun _=>?_,fun h=>absurd h (by omega)⟩;refine ZN (e0s [] (by simp) e.Z4) (by simp[YI,YW]) (by simp) ?_;simp-dsimp[hw];exact Zd
  ·have VR:i=l.length:=by omega
   subst VR;simp-dsimp[TE,ZW];refine HZ (fun k s=>k=0/\s=⟨[(10, .sl 10 1 0 0),(6, .iv (.Z6 1 []))],[(10, .list 1 [])]⟩) ⟨_,_,LeTo.le (D:=[]) ?_,rfl,rfl⟩ ?_
   ·simp
   ·rintro k s ⟨rfl,rfl⟩;simp-dsimp[R5];exact⟨[10],by simp[PZ,AV.Xt,c7d,YI,YW]⟩
def Yw:List Int:=[1,2,3,4,5]
def FP(l:List Eg)(row:List Int):List Eg:=(l.filter fun e=>decide (e.Z4∈row/\e.to∈row)).map fun e=>{e with kind:=1}
theorem c9O{l:List Eg}{row:List Int}{a b:Int}:M9 (ZP (FP l row) (YP Yw)) a b↔∃e,e∈l/\e.Z4=a/\e.to=b/\a∈row/\b∈row:=by
 rw[FT];constructor
 ·rintro⟨e,h1,_,h3,h4⟩;obtain⟨x,hx,rfl⟩:=a0E.1 h1;rw[a2E,decide_eq_true_eq]at hx;simp only at h3 h4;subst h3 h4;exact⟨x,hx.1,rfl,rfl,hx.2.1,hx.2.2⟩
 ·rintro⟨e,h1,rfl,rfl,h4,h5⟩;exact⟨{e with kind:=1},a0E.2 ⟨e,a2E.2 ⟨h1,by simpa using⟨h4,h5⟩⟩,rfl⟩,by simp[YP,Yw],rfl,rfl⟩
theorem c0P{l:List Eg}{p:Int×Int}:p∈VD l↔∃e,e∈l/\e.Z4=p.1/\e.to=p.2:=by
 unfold VD;rw[a0E];constructor
 ·rintro⟨e,h,rfl⟩;exact⟨e,h,rfl,rfl⟩
 ·rintro⟨e,h,h1,h2⟩;exact⟨e,h,by rw[h1,h2]⟩
theorem c1P{l:List Eg}(hk:∀e,e∈l->YP Yw e=true):Zh l Yw Yw≠[]↔∃s,s<(ZP l (YP Yw)).m/\(ZP l (YP Yw)).ok s=true/\WX (ZP l (YP Yw)) s≠[]:=by
 rw[FR];constructor
 ·rintro⟨e,h1,h2,h3⟩;obtain⟨i,he⟩:=a9B h1;have hi:i<(ZP l (YP Yw)).m:=(a5y.1 he).1;exact⟨i,hi,by rw[a8B he];exact h2,(a0y hi).2 (by rw[SE he,RK he];exact h3)⟩
 ·rintro⟨i,h1,h2,h3⟩;obtain⟨e,he⟩:=Zr (l:=l) h1;have:=(a0y h1).1 h3;rw[SE he,RK he]at this;exact⟨e,a6y he,hk e (a6y he),this⟩
theorem c2P(l:List Eg)(row:List Int):(WY (VD l) row).isSome=decide (Zh (FP l row) Yw Yw=[]):=by
 have hk:∀e,e∈FP l row->YP Yw e=true:=fun e he=>by
  obtain⟨x,_,rfl⟩:=a0E.1 he;simp[YP,Yw]
 cases h:WY (VD l) row with
 |none=>
  obtain⟨K,h1,h2,h3⟩:=c2e h
  have hc:Zh (FP l row) Yw Yw≠[]:=by
   rw[c1P hk]
   refine a2y h1 fun n hn=>?_
   obtain⟨p,hp,h4,h5⟩:=h3 n hn;obtain⟨e,he,e1,e2⟩:=c0P.1 hp;exact⟨p.1,h5,c9O.2 ⟨e,he,e1,e2.trans h4,h2 _ h5,h2 n hn⟩⟩
  simp[hc]
 |some s=>
  obtain⟨h1,h2,h3⟩:=c4e h
  have hc:Zh (FP l row) Yw Yw=[]:=a9M fun hc=>by
   rw[<-ne_eq,c1P hk]at hc;obtain⟨i,g1,g2,g3⟩:=hc;refine g3 (a1y (f:=fun x=>(s.idxOf x:Int)) (fun a b Iv=>?_) g1 g2);obtain⟨e,he,rfl,rfl,ha,hb⟩:=c9O.1 Iv;have:=h3 (e.Z4,e.to) (c0P.2 ⟨e,he,rfl,rfl⟩) ha hb;simpa using this
  simp[hc]
theorem c3P{l:List Eg}{row s:List Int}(h:WY (VD l) row=some s):l.all (fwd s)=true:=by
 obtain⟨h1,h2,h3⟩:=c4e h;rw[a8C];intro e he;unfold fwd;rw[decide_eq_true_eq]
 by_cases ha:e.Z4∈s
 ·by_cases hb:e.to∈s
  ·rw[c8G ha,c8G hb];have:=h3 (e.Z4,e.to) (c0P.2 ⟨e,he,rfl,rfl⟩) ((h1 _).1 ha) ((h1 _).1 hb);exact .inr (.inr (by simpa using this))
  ·exact .inr (.inl (c9G hb))
 ·exact .inl (c9G ha)
theorem c4P{l:List Eg}{row s:List Int}(h:WY (VD l) row=some s):s.length<=row.length:=by
 obtain⟨h1,h2,_⟩:=c4e h
 exact oW h2 fun x hx=>(h1 x).1 hx
theorem b9l{l l':List Eg}{ok ok':Eg->Bool}(h:∀e,e∈l->ok e=true->e∈l'/\ok' e=true){a b:Int}(hr:Tv (ZP l ok) a b):Tv (ZP l' ok') a b:=by
 induction hr with
 |refl a=>exact .refl a
 |step h1 _ ih=>
  obtain⟨e,g1,g2,g3,g4⟩:=FT.1 h1;obtain⟨q1,q2⟩:=h e g1 g2;exact .step (FT.2 ⟨e,q1,q2,g3,g4⟩) ih
theorem Dh{ks:List Int}{e:Eg}:YP ks e=true↔e.kind∈ks:=by simp[YP]
theorem b1m{l l':List Eg}{fs rs fs' rs':List Int}(h1:∀e,e∈l->e∈l')(hf:∀k,k∈fs->k∈fs')(hr:∀k,k∈rs->k∈rs')(h:Zh l fs rs≠[]):Zh l' fs' rs'≠[]:=by
 obtain⟨e,g1,g2,g3⟩:=FR.1 h;exact FR.2 ⟨e,h1 e g1,Dh.2 (hf _ (Dh.1 g2)),b9l (fun x hx hk=>⟨h1 x hx,Dh.2 (hr _ (Dh.1 hk))⟩) g3⟩
abbrev KN:List Int:=[1,2,3]
abbrev FQ:List Int:=[4,5]
theorem b2m{l:List Eg}(hk:∀e,e∈l->1<=e.kind/\e.kind<=5){a b:Int}(hr:Tv (ZP l (YP Yw)) a b):
 Tv (ZP l (YP KN)) a b\/∃x,x∈l/\x.kind∈FQ/\Tv (ZP l (YP Yw)) a x.Z4/\Tv (ZP l (YP Yw)) x.to b:=by
 induction hr with
 |refl a=>exact .inl (.refl a)
 |step h1 h2 ih=>
  obtain⟨e,g1,g2,g3,g4⟩:=FT.1 h1;obtain⟨k1,k2⟩:=hk e g1
  by_cases h3:e.kind<=3
  ·rcases ih with ih|⟨x,q1,q2,q3,q4⟩
   ·exact .inl (.step (FT.2 ⟨e,g1,Dh.2 (by simp;omega),g3,g4⟩) ih)
   ·exact .inr ⟨x,q1,q2, .step h1 q3,q4⟩
  ·refine .inr ⟨e,g1,by simp;omega,?_,?_⟩
   ·rw[g3];exact .refl _
   ·rw[g4];exact h2
theorem b3m{l:List Eg}(hk:∀e,e∈l->1<=e.kind/\e.kind<=5):Zh l Yw Yw≠[]↔Zh l KN KN≠[]\/Zh l FQ Yw≠[]:=by
 constructor
 ·intro h;obtain⟨e,g1,g2,g3⟩:=FR.1 h;obtain⟨k1,k2⟩:=hk e g1
  rcases b2m hk g3 with h3|⟨x,q1,q2,q3,q4⟩
  ·by_cases h4:e.kind<=3
   ·exact .inl (FR.2 ⟨e,g1,Dh.2 (by simp;omega),h3⟩)
   ·exact .inr (FR.2 ⟨e,g1,Dh.2 (by simp;omega),g3⟩)
  ·exact .inr (FR.2 ⟨x,q1,Dh.2 q2,q4.trans (.step (FT.2 ⟨e,g1,Dh.2 (by simp[Yw];omega),rfl,rfl⟩) q3)⟩)
 ·rintro(h|h)
  ·exact b1m (fun _ h=>h) (fun k hk=>by simp[Yw]at hk⊢;omega) (fun k hk=>by simp[Yw]at hk⊢;omega) h
  ·exact b1m (fun _ h=>h) (fun k hk=>by simp[Yw]at hk⊢;omega) (fun k hk=>hk) h
theorem b4m{l:List Eg}{row:List Int}(hk:∀e,e∈l->1<=e.kind/\e.kind<=5)(hr:∀e,e∈l->e.Z4∈row/\e.to∈row):Zh (FP l row) Yw Yw=[]↔Zh l Yw Yw=[]:=by
 have Ct:∀a b,M9 (ZP (FP l row) (YP Yw)) a b↔M9 (ZP l (YP Yw)) a b:=fun a b=>by
  rw[c9O,FT];constructor
  ·rintro⟨e,h1,h2,h3,_⟩;exact⟨e,h1,Dh.2 (by have:=hk e h1;simp[Yw];omega),h2,h3⟩
  ·rintro⟨e,h1,_,h2,h3⟩;exact⟨e,h1,h2,h3,h2▸(hr e h1).1,h3▸(hr e h1).2⟩
 have hrc:∀a b,Tv (ZP (FP l row) (YP Yw)) a b↔Tv (ZP l (YP Yw)) a b:=fun a b=>by
  constructor
  ·intro h
   induction h with
   |refl a=>exact .refl a
   |step h1 _ ih=>exact .step ((Ct _ _).1 h1) ih
  ·intro h
   induction h with
   |refl a=>exact .refl a
   |step h1 _ ih=>exact .step ((Ct _ _).2 h1) ih
 have Cs:(∃e,e∈FP l row/\YP Yw e=true/\Tv (ZP (FP l row) (YP Yw)) e.to e.Z4)↔∃e,e∈l/\YP Yw e=true/\Tv (ZP l (YP Yw)) e.to e.Z4:=by
  constructor
  ·rintro⟨e,h1,h2,h3⟩;obtain⟨x,q1,q2,q3,q4⟩:=FT.1 ((Ct _ _).1 (FT.2 ⟨e,h1,h2,rfl,rfl⟩));exact⟨x,q1,q2,by rw[q3,q4];exact(hrc _ _).1 h3⟩
  ·rintro⟨e,h1,h2,h3⟩;obtain⟨x,q1,q2,q3,q4⟩:=FT.1 ((Ct _ _).2 (FT.2 ⟨e,h1,h2,rfl,rfl⟩));exact⟨x,q1,q2,by rw[q3,q4];exact(hrc _ _).2 h3⟩
 have:=(FR (l:=FP l row) (fs:=Yw) (rs:=Yw)).trans (Cs.trans (FR (l:=l) (fs:=Yw) (rs:=Yw)).symm);exact⟨fun h=>a9M fun g=>this.2 g h,fun h=>a9M fun g=>this.1 g h⟩
structure h0d (es:List Eg) (i:Nat) (c:List Eg):Prop where
 vp:c≠[]->VP c
 WM:∀(k:Nat) (x:Eg),c[k]? =some x->x∈es
 mh:i<2->∀(k:Nat) (x:Eg),c[k]? =some x->x.kind≠4/\x.kind≠5
 ww:i=0->∀(k:Nat) (x:Eg),c[k]? =some x->x.kind=1
 cur:i=2->∀(k:Nat) (x c0:Eg),c[k]? =some x->c[0]? =some c0->x.key=c0.key/\x.table=c0.table/\(k=0->x.Zw=true)/\(k=0↔x.kind=4)
 item:i=3->∀c0:Eg,c[0]? =some c0->c0.kind=4
 g2:i=4->∀c0:Eg,c[0]? =some c0->c0.kind=4\/c0.kind=5
theorem b5m{l:List Eg}{fs rs:List Int}(h:Zh l fs rs≠[]):VP (Zh l fs rs):=(c7G h).1
theorem b6m{l:List Eg}{fs rs:List Int}:(Zh l fs rs).length<=l.length:=by
 by_cases h:Zh l fs rs=[]
 ·rw[h];simp
 ·obtain⟨s,h1,h2,h3,h4,_⟩:=b9F (c1G.1 h)
  have hf:Zh l fs rs=pick l (WX (ZP l (YP rs)) s):=by unfold Zh;rw[h3]
  obtain⟨D,hw,_⟩:=mV h1 h4;rw[hf,Ha hw.WM,hw.len];exact hw.lt
theorem c0m(
 l:List Eg) (hl:l.length<2^40) {row:List Int} (ZV:row≠[]) (hr:row.length<2^40):ZX prog false N4 [.iv (ZW l), .iv (YI row)] [] (Ir l row) []:=by
 refine FA (by decide) E6 (by simp) (by decide) ?_;simp-dsimp[a0m];refine e1x (d8C ZV hr 16) (by decide) (by simp[YI]) (by simp) ?_;simp-dsimp;refine T6 (d7B row (by omega)) rfl (by simp) (by simp) (by simp) (by simp) (by simp) (by simp[kE,KH]) (by simp) ?_;simp-dsimp;obtain⟨js,hjs,hC⟩:=d4C row ZV (by omega);have g9x:=d3C row
 have f5Q:∀x,x∈row↔x∈C1 row:=fun x=>d1C.symm
 have g0y:=d2C row;refine T6 hC rfl (by simp) (by simp[KH]) (by simp) (by simp) (by simp) (by simp only[a6L,a5L,and_true];exact⟨_,rfl,kE (by simp[KH,hjs];omega)⟩) (by simp) ?_
 simp-dsimp;have kD:WY (VD l) row=WY (VD l) (C1 row):=c8d f5Q;generalize C1 row=L0 at*;have T7:=c1n L0 js
 refine YJ [4] [9] l.length (fun i=>⟨[(24,vi i),(23,vi l.length),(22, .iv (ZW l)),(6, .sl 16 1 0 L0.length),(7, .ptr 7 0),(0, .iv (ZW l))],
  [(16, .list 1 (YW (L0++js))),(7, .box [.mpr 21]),(21, .map H6 (gD (HB (l.take i) L0) (Xk (l.take i) L0)))]⟩) (fun _=>True) ?_ trivial ?_
 ·simp[ZW,d1D (f:=Xk [] L0),c8m]
 ·intro i hi _
  by_cases Zd:i<l.length
  ·obtain⟨e,he⟩:=Zr Zd;have hw:=Zk (n:=(i:Int)+1) (by omega);have WG:l.take (i+1)=l.take i++[e]:=b9E he;simp-dsimp[TE,ZW,he,Eg.cells,YB];refine⟨fun _=>?_,fun h=>absurd h (by omega)⟩;refine ZN (e0s L0 (by omega) e.Z4) (by simp[YI,T7]) (by simp[YI]) ?_
   by_cases XZ:e.Z4∈L0
   ·have QA:=c4m (l.take i) L0 e.to
    have Z2:(l.take i).length<=l.length:=by simp;omega
    have HA:=d9C (D:=HB (l.take i) L0) (f:=Xk (l.take i) L0) e.to (Xk (l.take i) L0 e.to+1)
    have Np:(gD (e.to::HB (l.take i) L0) fun q=>if q=e.to then Xk (l.take i) L0 e.to+1 else Xk (l.take i) L0 q)=gD (HB (l.take (i+1)) L0) (Xk (l.take (i+1)) L0):=by
     rw[WG]
     refine d0D (fun x=>by rw[c9m,if_pos XZ];simp[or_comm]) fun x _=>?_
     rw[c3m]
     by_cases hx:x=e.to
     ·subst hx;simp[XZ]
     ·have:¬e.to=x:=fun h=>hx h.symm
      simp[hx,this]
    have hwc:=Zk (n:=Xk (l.take i) L0 e.to+1) (by omega)
    by_cases hD:e.to∈HB (l.take i) L0
    ·have hg:=d2D (f:=Xk (l.take i) L0) hD;simp-dsimp[XZ,hg,hwc,HA,Np,hw];exact Zd
    ·have hg:=d3D (f:=Xk (l.take i) L0) hD;have h0:=c0n hD;rw[h0]at HA Np;rw[Np]at HA;simp only[Int.zero_add]at HA
     have Wp:IntKind.i64.wrap 1=1:=by decide
     simp-dsimp[XZ,hg,HA,hw,Wp];exact Zd
   ·have Np:gD (HB (l.take i) L0) (Xk (l.take i) L0)=gD (HB (l.take (i+1)) L0) (Xk (l.take (i+1)) L0):=by
     rw[WG]
     refine d0D (fun x=>by rw[c9m,if_neg XZ];simp) fun x _=>?_
     rw[c3m];simp[XZ]
    simp-dsimp[XZ,hw,Np];exact Zd
  ·have VR:i=l.length:=by omega
   subst VR;simp-dsimp[TE,ZW]
   refine HZ (fun k s=>∃(left js out D:List Int),left.length=k/\left.Pairwise (· < ·)/\WY (VD l) row=(WY (VD l) left).map (out++ ·)/\(∀x,x∉D->Xk l left x=0)/\out.length+left.length<=row.length∧
    s=⟨[(10, .sl 10 1 0 out.length),(6, .sl 16 1 0 left.length),(7, .ptr 7 0),(0, .iv (ZW l))],[(10, .list 1 (YW out)),(16, .list 1 (YW (left++js))),(7, .box [.mpr 21]),(21, .map H6 (gD D (Xk l left)))]⟩)
    ⟨_,_,LeTo.le (D:=[]) ?_,L0,js,[],_,rfl,g0y,by rw[kD];cases WY (VD l) L0<;>simp,fun x h=>c0n h,by simpa using g9x,rfl⟩ ?_
   ·simp[YW,ZW]
   ·rintro k s ⟨left,js,out,D,rfl,Z2,E5,hD,hlen,rfl⟩;have T7:=c1n left js
    by_cases E4:left=[]
    ·subst E4;rw[c7d]at E5
     have:out.length<=row.length:=by simpa using hlen
     simp-dsimp[R5];exact⟨[10],by simp[PZ,AV.Xt,E5,YI,a0z]⟩
    ·have W0:=a6I.2 E4;simp-dsimp[R5,E4,W0];refine ZN (d6D left (by omega) D (Xk l left) hD) (by simp[YI,T7]) (by simp[YI]) ?_
     rcases oC (fun n=>decide (Xk l left n=0)) left with⟨q,n,h1,h2,h3,h4⟩|⟨h1,h2⟩
     ·have R4:=(a5y.1 h1).1
      have hx:(left++js)[q]? =some n:=by rw[a9L R4];exact h1
      have Wp:=Zk (n:=(q:Int)+1) (by omega);have HU:=c4n Z2 h1 h2 h4;have WA:=c3n (c2n Z2) h1;have Ml:=c0e HU WA;have Rh:(left.eraseIdx q).length=left.length-1:=c7p R4;have f6Q:=a6y h1
      have Iq:=fun k=>c7m f6Q WA k l
      have X9:¬(q:Int)<0:=by omega
      simp-dsimp[h3,hx,X9];refine⟨by omega,by omega,?_⟩;simp-dsimp[Wp];refine⟨by omega,?_⟩;refine T6 (d5C left js R4 (by omega)) rfl (by simp) (by simp) (by simp) (by simp) (by simp) (by simp only[a6L,a5L,and_true];exact⟨_,rfl,kE (by simp[Rh];omega)⟩) (by simp) ?_
      simp-dsimp
      refine YJ [52] [14] l.length (fun p=>⟨[(61,vi p),(60,vi l.length),(59, .iv (ZW l)),(12,vi n),(10, .sl 10 1 0 (out.length+1)),(6, .sl 16 1 0 (left.eraseIdx q).length),(7, .ptr 7 0),(0, .iv (ZW l))],
       [(10, .list 1 (YW (out++[n]))),(16, .list 1 (YW (left.eraseIdx q++(0::js)))),(7, .box [.mpr 21]),(21, .map H6 (gD D (fun k=>Xk l left k-Xk (l.take p) [n] k)))]⟩) (fun _=>True) ?_ trivial ?_
      ·simp[ZW,YW,c2m]
      ·intro p hp _
       by_cases Ul:p<l.length
       ·obtain⟨e,he⟩:=Zr Ul;have hw:=Zk (n:=(p:Int)+1) (by omega);have WG:l.take (p+1)=l.take p++[e]:=b9E he
        by_cases kC:e.Z4=n
        ·have hD2:e.to∈D:=a9M fun hc=>c5m.1 (hD _ hc) e (a6y he) rfl (kC▸f6Q)
         have c1:=c4m l left e.to;have c2:=c4m (l.take p) [n] e.to
         have c3:(l.take p).length<=l.length:=by simp;omega
         have HA:=d9C (D:=D) (f:=fun k=>Xk l left k-Xk (l.take p) [n] k) e.to (Xk l left e.to-Xk (l.take p) [n] e.to-1)
         have Np:(gD (e.to::D) fun k=>if k=e.to then Xk l left e.to-Xk (l.take p) [n] e.to-1 else Xk l left k-Xk (l.take p) [n] k)=gD D (fun k=>Xk l left k-Xk (l.take (p+1)) [n] k):=by
          rw[WG]
          refine d0D (fun x=>?_) fun x _=>?_
          ·rw[a5E];exact⟨fun h=>h.elim (fun h=>h▸hD2) id, .inr⟩
          ·rw[c3m]
           by_cases hx:x=e.to
           ·subst hx;simp[kC];omega
           ·have:¬e.to=x:=fun h=>hx h.symm
            simp[hx,this]
         rw[Np]at HA;have hg:=d2D (f:=fun k=>Xk l left k-Xk (l.take p) [n] k) hD2;have hwc:=Zk (n:=Xk l left e.to-Xk (l.take p) [n] e.to-1) (by omega);simp-dsimp[R3,ZW,he,Eg.cells,YB,kC,hg,hwc,HA,hw]
         exact fun h=>absurd h (by omega)
        ·have Np:gD D (fun k=>Xk l left k-Xk (l.take p) [n] k)=gD D (fun k=>Xk l left k-Xk (l.take (p+1)) [n] k):=by
          rw[WG]
          refine d0D (fun _=>Iff.rfl) fun x _=>?_
          rw[c3m];simp[kC]
         simp-dsimp[R3,ZW,he,Eg.cells,YB,kC,hw,Np]
         exact fun h=>absurd h (by omega)
       ·have mw:p=l.length:=by omega
        subst mw
        have hfc:(fun k=>Xk l left k-Xk (l.take l.length) [n] k)=Xk l (left.eraseIdx q):=by
         funext k
         rw[a6J,Iq k];omega
        rw[hfc];simp-dsimp[R3,ZW];refine⟨left.length-1,by omega,_,LeTo.le (D:=[]) ?_,left.eraseIdx q,Rh,Z2.sublist (c8A _ _),0::js,out++[n],?_,D,?_,?_,rfl⟩
        ·simp
        ·rw[E5,Ml,c7i]
         congr 1
         funext x
         simp
        ·intro x hx;have h0:=hD x hx;rw[Iq x]at h0;have a1:=c4m l (left.eraseIdx q) x;have a2:=c4m l [n] x;omega
        ·rw[a7J,b4p,Rh];omega
     ·have HU:MY (VD l) left=none:=by
       rw[c9c];intro n hn;rw[<-c6m];exact h1 n hn
      have Ml:=c9d E4 HU;rw[Ml]at E5;simp-dsimp[h2];exact⟨[4],by simp[PZ,AV.Xt,E5,YI,YW]⟩
def uq(l:List Int):List Int:=l.foldl (fun a x=>if x∈a then a else a++[x]) []
theorem e8l(l:List Int)(x:Int):uq (l++[x])=if x∈uq l then uq l else uq l++[x]:=by unfold uq;rw[a5U];rfl
theorem e9l:uq []=[]:=rfl
theorem e0m(l:List Int):(∀x,x∈uq l↔x∈l)/\(uq l).Nodup/\(uq l).length<=l.length:=by
 suffices h:∀(r:List Int),(∀x,x∈uq r.reverse↔x∈r)/\(uq r.reverse).Nodup/\(uq r.reverse).length<=r.length by
  have:=h l.reverse;simpa using this
 intro r
 induction r with
 |nil=>simp[e9l]
 |cons a r ih=>
  obtain⟨h1,h2,h3⟩:=ih;rw[List.reverse_cons,e8l];split
  ·rename_i h;refine⟨fun x=>?_,h2,by simp only[a4S];omega⟩;rw[h1,a5E];constructor
   ·exact fun hx=> .inr hx
   ·rintro(rfl|hx)
    ·exact(h1 _).1 h
    ·exact hx
  ·rename_i h;refine⟨fun x=>?_,?_,by simp only[a7J,a4S,c2i];omega⟩
   ·rw[a9E,h1,a1B,a5E];exact Or.comm
   ·rw[b6n];refine⟨h2,by simp,fun x hx y hy=>?_⟩;rw[a1B]at hy;subst hy;rintro rfl;exact h hx
def QL(row:List Int)(i:Nat):Int:=(row[i]?).getD 0
theorem e1m{row:List Int}{i:Nat}{x:Int}(h:row[i]? =some x):QL row i=x:=by simp[QL,h]
def PN(E:List (Int×Int))(left:List Int):Nat->Int
 | 0=> -1
 |i+1=>if T2 E left (QL left i)=true/\(PN E left i<0\/QL left i<QL left (PN E left i).toNat)then i else PN E left i
theorem e3m(E:List (Int×Int))(left:List Int):∀i:Nat,(PN E left i= -1/\∀j,j<i->T2 E left (QL left j)=false)∨
 ∃b:Nat,b<i/\PN E left i=b/\T2 E left (QL left b)=true/\∀j,j<i->T2 E left (QL left j)=true->QL left b<=QL left j
 | 0=> .inl ⟨rfl,fun j h=>by omega⟩
 |i+1=>by
  rcases e3m E left i with⟨h1,h2⟩|⟨b,h1,h2,h3,h4⟩
  ·cases hf:T2 E left (QL left i)with
   |false=>
    refine .inl ⟨by simp[PN,hf,h1],fun j hj=>?_⟩
    by_cases e:j=i
    ·subst e;exact hf
    ·exact h2 j (by omega)
   |true=>
    refine .inr ⟨i,by omega,by simp[PN,hf,h1],hf,fun j hj QM=>?_⟩
    by_cases e:j=i
    ·subst e;omega
    ·rw[h2 j (by omega)]at QM;cases QM
  ·cases hf:T2 E left (QL left i)with
   |false=>
    refine .inr ⟨b,by omega,by simp[PN,hf,h2],h3,fun j hj QM=>?_⟩
    by_cases e:j=i
    ·subst e;rw[hf]at QM;cases QM
    ·exact h4 j (by omega) QM
   |true=>
    by_cases Z2:QL left i<QL left b
    ·refine .inr ⟨i,by omega,by simp[PN,hf,h2,Z2],hf,fun j hj QM=>?_⟩
     by_cases e:j=i
     ·subst e;omega
     ·have:=h4 j (by omega) QM;omega
    ·refine .inr ⟨b,by omega,?_,h3,fun j hj QM=>?_⟩
     ·have:¬((b:Int)<0):=by omega
      simp[PN,hf,h2,Z2,this]
     ·by_cases e:j=i
      ·subst e;omega
      ·exact h4 j (by omega) QM
theorem e4m{E:List (Int×Int)}{left:List Int}(h:∀j,j<left.length->T2 E left (QL left j)=false):MY E left=none:=by
 rw[c9c];intro n hn;obtain⟨j,hj⟩:=a9B hn;rw[<-e1m hj];exact h j (a5y.1 hj).1
theorem e5m{E:List (Int×Int)}{left:List Int}{b:Nat}{n:Int}(hb:left[b]? =some n)(h3:T2 E left (QL left b)=true)(h4:∀j,j<left.length->T2 E left (QL left j)=true->QL left b<=QL left j):MY E left=some n:=by
 rw[e1m hb]at h3 h4
 refine c1d (a6y hb) h3 fun m hm hf=>?_
 obtain⟨j,hj⟩:=a9B hm;have:=h4 j (a5y.1 hj).1;rw[e1m hj]at this;exact this hf
theorem e6m(l:List Eg)(e:Eg)(left:List Int)(n:Int):T2 (VD (l++[e])) left n=(T2 (VD l) left n&& !decide (e.to=n/\e.Z4∈left)):=by
 unfold T2 VD;rw[a5M,List.any_append];simp
theorem e7m(left:List Int)(n:Int):T2 (VD []) left n=true:=rfl
theorem e8m(
 l:List Eg) (hl:l.length<2^40) {row:List Int} (hr:row.length<2^40):ZX prog false Qj [.iv (ZW l), .iv (YI row)] [] (Ir l row) []:=by
 refine FA (by decide) f1y (by simp) (by decide) ?_;simp-dsimp[a2l];refine YJ [4] [32] row.length (fun i=>⟨[(7,vi i),(6, .sl 6 1 0 (uq (row.take i)).length),(0, .iv (ZW l)),(1, .iv (YI row))],[(6, .list 1 (YW (uq (row.take i))))]⟩) (fun _=>True) ?_ trivial ?_
 ·simp[e9l,YW]
 ·intro i hi _
  by_cases Zd:i<row.length
  ·obtain⟨x,hx⟩:=Zr Zd;have hw:=Zk (n:=(i:Int)+1) (by omega);have WG:row.take (i+1)=row.take i++[x]:=b9E hx;obtain⟨u1,u2,u3⟩:=e0m (row.take i)
   have u3':(row.take i).length<=row.length:=by simp;omega
   rw[WG,e8l];generalize uq (row.take i)=u at*;have T7:a1V u.length (YW u)=YW u:=a0z (by simp);simp-dsimp[LM,YI,hx];refine⟨fun _=>?_,fun h=>absurd h (by omega)⟩;refine ZN (e9r u (by omega) x) (by simp[YI,T7]) (by simp[YI]) ?_
   by_cases XZ:x∈u
   ·have hp:¬W8 u x<0:=by have:=(c8y (l:=u) (x:=x)).2 XZ;omega
    simp-dsimp[hp,XZ,hw];exact Zd
   ·have hp:W8 u x<0:=by
     have:=(c8y (l:=u) (x:=x)).1
     by_cases h:0<=W8 u x
     ·exact absurd (this h) XZ
     ·omega
    simp-dsimp[hp,XZ,hw,hx];exact⟨by omega,by omega,Zd,by simp[YW]⟩
  ·have VR:i=row.length:=by omega
   subst VR;obtain⟨u1,u2,u3⟩:=e0m row
   have kD:WY (VD l) row=WY (VD l) (uq row):=c8d fun x=>(u1 x).symm
   rw[a6J];generalize uq row=L0 at*;simp-dsimp[LM,YI]
   refine HZ (fun k s=>∃(left out:List Int),left.length=k/\left.Nodup/\WY (VD l) row=(WY (VD l) left).map (out++ ·)/\out.length+left.length<=row.length∧
    s=⟨[(8, .sl 8 1 0 out.length),(6, .iv (YI left)),(0, .iv (ZW l))],[(8, .list 1 (YW out))]⟩)
    ⟨_,_,LeTo.le (D:=[6]) ?_,L0,[],rfl,u2,by rw[kD];cases WY (VD l) L0<;>simp,by simpa using u3,rfl⟩ ?_
   ·simp[YW,ZW,YI];exact a0z (by simp)
   ·rintro k s ⟨left,out,rfl,VM,E5,hlen,rfl⟩
    by_cases E4:left=[]
    ·subst E4;rw[c7d]at E5
     have:out.length<=row.length:=by simpa using hlen
     simp-dsimp[Oy,YI,YW];exact⟨[8],by simp[PZ,AV.Xt,E5,YI,a0z,YW]⟩
    ·have W0:=a6I.2 E4;simp-dsimp[Oy,E4,W0,YI];refine YJ [] [] left.length (fun i=>⟨[(10,vi i),(9,vi (PN (VD l) left i)),(8, .sl 8 1 0 out.length),(6, .iv (YI left)),(0, .iv (ZW l))],[(8, .list 1 (YW out))]⟩) (fun _=>True) ?_ trivial ?_
     ·simp[PN,ZW,YI]
     ·intro i hi _
      by_cases Zd:i<left.length
      ·obtain⟨n,hn⟩:=Zr Zd;simp-dsimp[Oz,YI];refine⟨fun _=>?_,fun h=>absurd h (by omega)⟩;refine YJ [] [] l.length (fun k=>⟨[(12,vi k),(11,vb (T2 (VD (l.take k)) left n)),(10,vi i),(9,vi (PN (VD l) left i)),(8, .sl 8 1 0 out.length),(6, .iv (YI left)),(0, .iv (ZW l))],[(8, .list 1 (YW out))]⟩) (fun _=>True) ?_ trivial ?_
       ·simp[e7m,ZW,YI]
       ·intro k hk _
        by_cases Vy:k<l.length
        ·obtain⟨e,he⟩:=Zr Vy;have hw:=Zk (n:=(k:Int)+1) (by omega);have WG:l.take (k+1)=l.take k++[e]:=b9E he;rw[WG,e6m]
         by_cases h1:e.to=n
         ·simp-dsimp[Vr,ZW,YI,he,Eg.cells,YB,hn,h1];refine⟨fun _=>?_,fun h=>absurd h (by omega)⟩;refine ZN (e9r left (by omega) e.Z4) (by simp[YI]) (by simp[YI]) ?_
          by_cases XZ:e.Z4∈left
          ·have hp:=(c8y (l:=left) (x:=e.Z4)).2 XZ;simp-dsimp[hp,XZ,hw];exact Vy
          ·have hp:¬0<=W8 left e.Z4:=fun h=>XZ (c8y.1 h)
           simp-dsimp[hp,XZ,hw];exact Vy
         ·simp-dsimp[Vr,ZW,YI,he,Eg.cells,YB,hn,h1,hw]
          exact fun h=>absurd h (by omega)
        ·have Dr:k=l.length:=by omega
         subst Dr;rw[a6J];have hw:=Zk (n:=(i:Int)+1) (by omega)
         have UZ:PN (VD l) left (i+1)=if T2 (VD l) left (QL left i)=true/\(PN (VD l) left i<0\/QL left i<QL left (PN (VD l) left i).toNat)then(i:Int)else PN (VD l) left i:=rfl
         rw[e1m hn]at UZ
         cases hf:T2 (VD l) left n with
         |false=>
          rw[hf]at UZ;simp only[a1N,false_and,if_false]at UZ;simp-dsimp[Vr,ZW,YI,hw,UZ];exact Zd
         |true=>
          rcases e3m (VD l) left i with⟨g1,g2⟩|⟨b,g1,g2,g3,g4⟩
          ·have DJ:PN (VD l) left (i+1)=i:=by rw[UZ,hf,g1];simp
           simp-dsimp[Vr,ZW,YI,hw,g1,DJ];exact Zd
          ·obtain⟨m,hm⟩:∃m,left[b]? =some m:=Zr (by omega)
           have X9:¬(b:Int)<0:=by omega
           rw[g2,c4c,e1m hm]at UZ
           by_cases Z2:n<m
           ·have DJ:PN (VD l) left (i+1)=i:=by rw[UZ,hf];simp[Z2]
            simp-dsimp[Vr,ZW,YI,hw,g2,X9,hn,hm,Z2,DJ];exact Zd
           ·have DJ:PN (VD l) left (i+1)=b:=by rw[UZ,hf];simp[Z2,X9]
            simp-dsimp[Vr,ZW,YI,hw,g2,X9,hn,hm,Z2,DJ];exact Zd
      ·have VR:i=left.length:=by omega
       subst VR;have hb:=e3m (VD l) left left.length;simp-dsimp[Oz,YI]
       rcases hb with⟨h1,h2⟩|⟨b,h1,h2,h3,h4⟩
       ·have Ml:=c9d E4 (e4m h2);rw[Ml]at E5;simp-dsimp[h1];exact⟨[4],by simp[PZ,AV.Xt,E5,YI,YW]⟩
       ·have X9:¬(b:Int)<0:=by omega
        obtain⟨n,hn⟩:=Zr h1;have Ml:=c0e (e5m hn h3 h4) (c3n VM hn);have Rh:(left.eraseIdx b).length=left.length-1:=c7p h1;have Wp:=Zk (n:=(b:Int)+1) (by omega)
        have g9V:a1V b (YW left)++a1V (left.length-(b+1)) (c5P (b+1) (YW left))=YW (left.eraseIdx b):=by
         rw[a0z (l:=c5P (b+1) (YW left)) (by simp)];unfold YW;rw[<-c7D, <-List.map_drop, <-a5M,c1H]
        have Lz:(left.length:Int)-((b:Int)+1)=((left.length-(b+1):Nat):Int):=by omega
        have QQ:a1V (b+(left.length-(b+1))) (YW (left.eraseIdx b))=YW (left.eraseIdx b):=a0z (by simp[Rh];omega)
        have hn2:min b left.length=b:=by omega
        simp-dsimp[h2,X9,hn,Wp,Lz,hn2];refine⟨by omega,by omega,by omega,by omega,by omega,by omega,by omega,by omega,by omega,left.length-1,by omega,_,LeTo.le (D:=[13,93]) ?_,left.eraseIdx b,Rh,VM.sublist (c8A _ _),out++[n],?_,?_,rfl⟩
        ·have hsn:YW out++[[ci n]]=YW (out++[n]):=by simp[YW]
         simp[g9V,QQ,hsn,ZW,YI]
        ·rw[E5,Ml,c7i]
         congr 1
         funext x
         simp
        ·rw[a7J,b4p,Rh];omega
theorem c8W(l:List Eg)(hl:l.length<2^40){row:List Int}(hr:row.length<2^40):ZX prog false N4 [.iv (ZW l), .iv (YI row)] [] (Ir l row) []:=by
 by_cases h:row=[]
 ·subst h;exact c5n l hl
 ·exact c0m l hl h hr
noncomputable def Wj(h:Hs):Option (List Int):=open Classical in if Zo h then WY (VD (XQ h Zt)) (Xo (Ye h.events))else none
noncomputable def Ss(h:Hs):AV:= .Zp [.iv (YI ((Wj h).getD [])),vb (Wj h).isSome]
theorem c9W{h:Hs}(hw:Zo h):Ir (XQ h Zt) (Xo (Ye h.events))=Ss h:=by
 unfold Ir Ss Wj;rw[if_pos hw]
theorem c0X{h:Hs}(hw:¬Zo h):Ss h= .Zp [.iv (YI []),vb false]:=by
 unfold Ss Wj;rw[if_neg hw];rfl
theorem c1X{h:Hs}(hm:h.T3):(Xo (Ye h.events)).length<2^40:=by
 rw[KH];have:=d6k h.events;have:=hm.1;omega
theorem G6{h:Hs}(hm:h.T3)(B:Eg->Int->Int->Bool):(XQ h B).length<=2^29:=by have:=d5f h B;have:=d3p hm;omega
theorem c3X{h:Hs}(ZY:h.Ok)(Xs:h.Rg)(hm:h.T3):ZX prog false Qg [h.av] [] (Ss h) []:=by
 have XM:h.events.length<2^40:=by have:=hm.1;omega
 have g1:=CL ZY Xs hm
 rcases e6s ZY XM with⟨hw,hR⟩|⟨hw,hR⟩
 ·have g2:=c8W (XQ h Zt) (by have:=G6 hm Zt;omega) (c1X hm);rw[c9W hw]at g2;unfold Ss at*;refine FA (by decide) EX (by simp) (by decide) ?_;simp-dsimp[a6r,Hs.av];refine Y6 hR rfl (by simp[Hs.av]) (by simp[Hs.av]) (by simp) (by simp) ?_;simp-dsimp[Yv];refine Y6 g1 rfl (by simp[Hs.av]) (by simp[Hs.av]) (by simp) (by simp) ?_;simp-dsimp
  refine Y6 (b1y h.events h.order XM) rfl (by simp[Yv]) (by simp) (by simp) (by simp) ?_;simp-dsimp;refine Y6 g2 rfl (by simp[ZW,YI]) (by simp) (by simp) (by simp) ?_;simp-dsimp;exact⟨[1],by simp[PZ,AV.Xt]⟩
 ·rw[c0X hw];refine FA (by decide) EX (by simp) (by decide) ?_;simp-dsimp[a6r,Hs.av];refine Y6 hR rfl (by simp[Hs.av]) (by simp[Hs.av]) (by simp) (by simp) ?_;simp-dsimp;exact⟨[1,2],by simp[PZ,AV.Xt,YI,YW]⟩
def XO(h:Hs):Prop:=Zo h/\YF h 2 (VQ h.events)<0/\YF h 2 (V6 h.events)<0/\Zh (XQ h Zt) [1,2,3,4,5] [1,2,3,4,5]=[]
theorem c4X{h:Hs}(ZY:h.Ok)(Xs:h.Rg)(hm:h.T3):ZX prog true VL [h.av] [] (vb (Y7 (XO h))) []:=by
 have XM:h.events.length<2^40:=by have:=hm.1;omega
 have g1:=b3n ZY XM 2;have g2:=b4n ZY XM 2;have g3:=d9f ZY Xs hm;refine YG iI (by simp[Hs.av]) (by decide) rfl ?_;simp-dsimp[a8r,Hs.av]
 rcases e6s ZY XM with⟨hw,hR⟩|⟨hw,hR⟩
 ·refine Y6 hR rfl (by simp[Hs.av]) (by simp[Hs.av]) (by simp) (by simp) ?_;simp-dsimp[Yv];refine ZN g1 (by simp[Hs.av]) (by simp[Hs.av]) ?_
  by_cases a1:YF h 2 (VQ h.events)<0
  ·have a1':¬0<=YF h 2 (VQ h.events):=by omega
   simp-dsimp[a1'];refine ZN g2 (by simp[Hs.av]) (by simp[Hs.av]) ?_
   by_cases a2:YF h 2 (V6 h.events)<0
   ·have a2':¬0<=YF h 2 (V6 h.events):=by omega
    simp-dsimp[a2'];refine Y6 g3 rfl (by simp[Hs.av]) (by simp[Hs.av]) (by simp) (by simp) ?_
    by_cases a3:Zh (XQ h Zt) [1,2,3,4,5] [1,2,3,4,5]=[]
    ·have hc:Y7 (XO h)=true:=UQ.2 ⟨hw,a1,a2,a3⟩;simp-dsimp[a3,hc,ZW,ZM]
    ·have hc:Y7 (XO h)=false:=U6.2 fun g=>a3 g.2.2.2
     have W0:=a6I.2 a3
     have ZV:¬((Zh (XQ h Zt) [1,2,3,4,5] [1,2,3,4,5]).length:Int)=0:=by omega
     simp-dsimp[hc,ZW,ZV];exact a3
   ·have a2':0<=YF h 2 (V6 h.events):=by omega
    have hc:Y7 (XO h)=false:=U6.2 fun g=>a2 g.2.2.1
    simp-dsimp[a2',hc]
  ·have a1':0<=YF h 2 (VQ h.events):=by omega
   have hc:Y7 (XO h)=false:=U6.2 fun g=>a1 g.2.1
   simp-dsimp[a1',hc]
 ·have hc:Y7 (XO h)=false:=U6.2 fun g=>hw g.1
  refine Y6 hR rfl (by simp[Hs.av]) (by simp[Hs.av]) (by simp) (by simp) ?_;simp-dsimp[hc]
theorem c5X{h:Hs}(ZY:h.Ok)(e:Eg):ZX prog true Gv [h.av,e.av] [] (vb (Zt e (W6 h.events e.Z4) (W6 h.events e.to))) []:=by
 have L1:=b7H ZY e.Z4;have L2:=b7H ZY e.to
 have hl:∀t,((h.events.find? (Ev.UP t)).map Ev.level).getD 0=W6 h.events t:=fun t=>rfl
 rw[hl]at L1 L2;generalize W6 h.events e.Z4=a at*;generalize W6 h.events e.to=b at*;refine YG fx (by simp[Hs.av]) (by decide) rfl ?_
 by_cases k1:e.kind=1
 ·simp-dsimp[c9n,Hs.av,Eg.av,Eg.cells,Zt,k1];refine ZN L1 (by simp[Hs.av]) (by simp[Hs.av]) ?_;simp-dsimp;refine ZN L2 (by simp[Hs.av]) (by simp[Hs.av]) ?_;simp-dsimp[k1]
 ·by_cases k2:e.kind=2
  ·simp-dsimp[c9n,Hs.av,Eg.av,Eg.cells,Zt,k2];refine ZN L1 (by simp[Hs.av]) (by simp[Hs.av]) ?_;simp-dsimp;refine ZN L2 (by simp[Hs.av]) (by simp[Hs.av]) ?_;simp-dsimp[k2]
  ·by_cases k3:e.kind=3
   ·simp-dsimp[c9n,Hs.av,Eg.av,Eg.cells,Zt,k3];refine ZN L1 (by simp[Hs.av]) (by simp[Hs.av]) ?_;simp-dsimp;refine ZN L2 (by simp[Hs.av]) (by simp[Hs.av]) ?_;simp-dsimp[k3]
   ·by_cases k4:e.kind=4
    ·simp-dsimp[c9n,Hs.av,Eg.av,Eg.cells,Zt,k4];refine ZN L1 (by simp[Hs.av]) (by simp[Hs.av]) ?_;simp-dsimp;refine ZN L2 (by simp[Hs.av]) (by simp[Hs.av]) ?_;simp-dsimp[k4]
    ·simp-dsimp[c9n,Hs.av,Eg.av,Eg.cells,Zt,k1,k2,k3,k4];refine ZN L1 (by simp[Hs.av]) (by simp[Hs.av]) ?_;simp-dsimp;refine ZN L2 (by simp[Hs.av]) (by simp[Hs.av]) ?_;simp-dsimp[k1,k2,k3,k4]
theorem c6X(h:Hs)(B:Eg->Int->Int->Bool):(XS h).filter (fun e=>B e (W6 h.events e.Z4) (W6 h.events e.to))=XQ h B:=by
 unfold XQ
 by_cases hw:Zo h
 ·refine d2n fun e _=>?_
  rw[b5k hw,b5k hw]
 ·rw[Dw hw];rfl
theorem c7X{α:Type}{p:α->Bool}{l:List α}{i:Nat}{x:α}(hx:l[i]? =some x):(l.take (i+1)).filter p=(l.take i).filter p++if p x then[x]else[]:=by
 rw[show l.take (i+1)=l.take i++[x] by rw[a3I,hx];rfl,b4j]
 congr 1
 cases h:p x<;>simp[h]
theorem c8X{h:Hs}(ZY:h.Ok)(hm:h.T3):ZX prog false Vn [h.av] [] (.iv (ZW (XQ h Zt))) []:=by
 have g1:=d1W ZY hm;have hlen:=d3p hm;have hC:=c5X ZY;rw[<-c6X h Zt];generalize XS h=es at*;generalize hpp:(fun e=>Zt e (W6 h.events e.Z4) (W6 h.events e.to))=pp
 have mw:∀e,Zt e (W6 h.events e.Z4) (W6 h.events e.to)=pp e:=fun e=>by rw[<-hpp]
 simp only[mw]at hC;refine Te gK (by simp) (by decide) ?_;simp-dsimp[a3s,Hs.av];refine Y6 g1 rfl (by simp[Hs.av]) (by simp[Hs.av]) (by simp) (by simp) ?_;simp-dsimp
 refine YJ [2] [27] es.length (fun i=>⟨[(5,vi i),(4, .iv (ZW es)),(3, .sl 3 8 0 ((es.take i).filter pp).length),(1, .ptr 1 0)],
  [(3, .list 8 (ZM ((es.take i).filter pp))),(1, .box [.iv (.Z6 1 (Za h.tables)), .iv (.Z6 22 (ZB h.events)), .iv (.Z6 5 (Zi h.order))])]⟩) (fun _=>True) ?_ trivial ?_
 ·simp[ZM,ZW]
 ·intro i hi _
  by_cases Zd:i<es.length
  ·obtain⟨e,he⟩:=Zr Zd;have hw:=Zk (n:=(i:Int)+1) (by omega)
   have hd:decide (i<es.length)=true:=by simpa using Zd
   have hfl:((es.take i).filter pp).length<=2^29:=by
    have h1:=a0V pp (es.take i);rw[a3U]at h1;omega
   rw[c7X he];generalize (es.take i).filter pp=G at*;simp-dsimp[Mk,ZW,he,Eg.cells,YB,hd];refine ZN (hC e) (by simp[Hs.av,Eg.av,Eg.cells]) (by simp[Hs.av,Eg.av,Eg.cells]) ?_
   cases hp:pp e with
   |false=>
    simp-dsimp[hw,hp];exact Zd
   |true=>
    simp-dsimp[hw,hp,he,Eg.cells,YB,hd];exact⟨by omega,by omega,Zd,by simp[ZM,Eg.cells]⟩
  ·have VR:i=es.length:=by omega
   subst VR;rw[a6J];simp-dsimp[Mk,ZW];exact⟨[1,3],by simp[Yz,AV.Xt,a0z]⟩
theorem c9X(h:Hs):(XQ h Zt).filter (fun e=>decide (W6 h.events e.Z4=5/\W6 h.events e.to=5))=XQ h Uf:=by
 rw[<-c6X h Zt, <-c6X h Uf,List.filter_filter];rfl
theorem c0Y{h:Hs}(ZY:h.Ok)(hm:h.T3):ZX prog false Lr [h.av] [] (.iv (ZW (XQ h Uf))) []:=by
 have g1:=c8X ZY hm;have hlen:=G6 hm Zt
 have hL:∀t,ZX prog true Uy [h.av,vi t] [] (vi (W6 h.events t)) []:=fun t=>b7H ZY t
 rw[<-c9X h];generalize XQ h Zt=es at*;generalize hpp:(fun e:Eg=>decide (W6 h.events e.Z4=5/\W6 h.events e.to=5))=pp
 have mw:∀e:Eg,decide (W6 h.events e.Z4=5/\W6 h.events e.to=5)=pp e:=fun e=>by rw[<-hpp]
 refine Te gi (by simp) (by decide) ?_;simp-dsimp[a5s,Hs.av];refine Y6 g1 rfl (by simp[Hs.av]) (by simp[Hs.av]) (by simp) (by simp) ?_;simp-dsimp
 refine YJ [2] [41] es.length (fun i=>⟨[(5,vi i),(4, .iv (ZW es)),(3, .sl 3 8 0 ((es.take i).filter pp).length),(1, .ptr 1 0)],
  [(3, .list 8 (ZM ((es.take i).filter pp))),(1, .box [.iv (.Z6 1 (Za h.tables)), .iv (.Z6 22 (ZB h.events)), .iv (.Z6 5 (Zi h.order))])]⟩) (fun _=>True) ?_ trivial ?_
 ·simp[ZM,ZW]
 ·intro i hi _
  by_cases Zd:i<es.length
  ·obtain⟨e,he⟩:=Zr Zd;have hw:=Zk (n:=(i:Int)+1) (by omega)
   have hd:decide (i<es.length)=true:=by simpa using Zd
   have hfl:((es.take i).filter pp).length<=2^29:=by
    have h1:=a0V pp (es.take i);rw[a3U]at h1;omega
   have hp:=mw e;have L1:=hL e.Z4;have L2:=hL e.to;rw[c7X he];generalize (es.take i).filter pp=G at*;generalize W6 h.events e.Z4=a at*;generalize W6 h.events e.to=b at*;simp-dsimp[Pn,ZW,he,Eg.cells,YB,hd];refine ZN L1 (by simp[Hs.av]) (by simp[Hs.av]) ?_;simp-dsimp[he,Eg.cells,YB,hd];refine ZN L2 (by simp[Hs.av]) (by simp[Hs.av]) ?_
   by_cases ha:a=5
   ·by_cases hb:b=5
    ·have hp1:pp e=true:=by rw[<-hp,decide_eq_true ⟨ha,hb⟩]
     simp-dsimp[hw,hp1,he,Eg.cells,YB,hd,ha,hb];exact⟨by omega,by omega,Zd,by simp[ZM,Eg.cells]⟩
    ·have hp1:pp e=false:=by rw[<-hp,decide_eq_false (fun g=>hb g.2)]
     simp-dsimp[hw,hp1,ha,hb];exact Zd
   ·have hp1:pp e=false:=by rw[<-hp,decide_eq_false (fun g=>ha g.1)]
    simp-dsimp[hw,hp1,ha];exact Zd
  ·have VR:i=es.length:=by omega
   subst VR;rw[a6J];simp-dsimp[Pn,ZW];exact⟨[1,3],by simp[Yz,AV.Xt,a0z]⟩
theorem c1Y{h:Hs}(ZY:h.Ok)(hm:h.T3):ZX prog false Ls [h.av] [] (.iv (ZW (Zh (XQ h Zt) [1,2,3,4,5] [1,2,3,4,5]))) []:=by
 have g1:=c8X ZY hm;have g2:=b0K (l:=XQ h Zt) .any .any (G6 hm Zt);generalize XQ h Zt=es at*;refine Te ic (by simp) (by decide) ?_;simp-dsimp[a1s,Hs.av]
 repeat' refine b5Z ?_ ?_
 all_goals refine Y6 g1 rfl (by simp[Hs.av]) (by simp[Hs.av]) (by simp) (by simp) ?_
 all_goals simp-dsimp
 all_goals refine Y6 g2 rfl (by simp[ZW,Up]) (by simp[Up]) (by simp) (by simp) ?_
 all_goals simp-dsimp
 all_goals exact⟨[1,3],by simp[Yz,AV.Xt]⟩
theorem c2Y{h:Hs}(ZY:h.Ok)(hm:h.T3):ZX prog false Lu [h.av] [] (Ss h) []:=by
 have XM:h.events.length<2^40:=by have:=hm.1;omega
 have g1:=c8X ZY hm
 by_cases hw:Zo h
 ·have M8:Y7 (Zo h)=true:=UQ.2 hw;have g2:=e8m (XQ h Zt) (by have:=G6 hm Zt;omega) (c1X hm);have g3:=a7Q ZY hw XM;rw[c9W hw]at g2;unfold Ss at*;generalize XQ h Zt=es at*;refine FA (by decide) EW (by simp) (by decide) ?_;simp-dsimp[a7r,Hs.av];refine ZN (mN ZY) (by simp[Hs.av]) (by simp[Hs.av]) ?_;simp-dsimp[M8]
  repeat' refine b5Z ?_ ?_
  all_goals refine Y6 g1 rfl (by simp[Hs.av]) (by simp[Hs.av]) (by simp) (by simp) ?_
  all_goals simp-dsimp
  all_goals refine Y6 g3 rfl (by simp[Hs.av]) (by simp[Hs.av]) (by simp) (by simp) ?_
  all_goals simp-dsimp
  all_goals refine Y6 g2 rfl (by simp[ZW,YI]) (by simp) (by simp) (by simp) ?_
  all_goals simp-dsimp
  all_goals exact⟨[1],by simp[PZ,AV.Xt]⟩
 ·have G5:Y7 (Zo h)=false:=U6.2 hw;rw[c0X hw];refine FA (by decide) EW (by simp) (by decide) ?_;simp-dsimp[a7r,Hs.av];refine ZN (mN ZY) (by simp[Hs.av]) (by simp[Hs.av]) ?_;simp-dsimp[G5];exact⟨[1,2],by simp[PZ,AV.Xt,YI,YW]⟩
theorem c3Y{h:Hs}{B:Eg->Int->Int->Bool}:∀e,e∈XQ h B->1<=e.kind/\e.kind<=5:=by
 intro e he;have hm:=(a2E.1 he).1
 by_cases hw:Zo h
 ·exact(d6w hw ((a6N hw).1 hm).1).kind
 ·rw[Dw hw]at hm;cases hm
theorem c4Y{h:Hs}{B:Eg->Int->Int->Bool}:∀e,e∈XQ h B->e.Z4∈Xo (Ye h.events)/\e.to∈Xo (Ye h.events):=by
 intro e he;have hm:=(a2E.1 he).1
 by_cases hw:Zo h
 ·have:=d6w hw ((a6N hw).1 hm).1;exact⟨e7e.2 this.Z4,e7e.2 this.to⟩
 ·rw[Dw hw]at hm;cases hm
theorem c5Y{h:Hs}(hw:Zo h):(Wj h).isSome=decide (Zh (XQ h Zt) [1,2,3,4,5] [1,2,3,4,5]=[]):=by
 unfold Wj;rw[if_pos hw,c2P,b4H,decide_eq_true_eq,decide_eq_true_eq];exact b4m c3Y c4Y
theorem c6Y{h:Hs}:XO h↔(Wj h).isSome=true/\YF h 2 (VQ h.events)= -1/\YF h 2 (V6 h.events)= -1:=by
 have l1:=b4l (h:=h) 2 (VQ h.events);have l2:=b4l (h:=h) 2 (V6 h.events)
 by_cases hw:Zo h
 ·rw[c5Y hw,decide_eq_true_eq];unfold XO;constructor
  ·rintro⟨_,a,b,c⟩;exact⟨c,by omega,by omega⟩
  ·rintro⟨c,a,b⟩;exact⟨hw,by omega,by omega,c⟩
 ·constructor
  ·exact fun g=>absurd g.1 hw
  ·rintro⟨g,_⟩;unfold Wj at g;rw[if_neg hw]at g;cases g
theorem c7Y{h:Hs}(ZY:h.Ok)(hm:h.T3):ZX prog true Lt [h.av] [] (vb (Y7 (XO h))) []:=by
 have XM:h.events.length<2^40:=by have:=hm.1;omega
 have g0:=c2Y ZY hm;have g1:=b1n ZY XM 2;have g2:=b2n ZY XM 2;rw[<-b2l]at g1;rw[<-b3l XM]at g2;unfold Ss at g0;have hc:=c6Y (h:=h);generalize YF h 2 (VQ h.events)=a at*;generalize YF h 2 (V6 h.events)=b at*;refine YG iE (by simp[Hs.av]) (by decide) rfl ?_;simp-dsimp[a9r,Hs.av]
 refine Y6 g0 rfl (by simp[Hs.av]) (by simp[Hs.av]) (by simp) (by simp) ?_
 cases hs:(Wj h).isSome with
 |false=>
  have Mm:Y7 (XO h)=false:=U6.2 fun g=>by have:=(hc.1 g).1;rw[hs]at this;cases this
  simp-dsimp[Mm]
 |true=>
  simp-dsimp;refine ZN g1 (by simp[Hs.av]) (by simp[Hs.av]) ?_
  by_cases ha:a= -1
  ·simp-dsimp[ha];refine ZN g2 (by simp[Hs.av]) (by simp[Hs.av]) ?_
   by_cases hb:b= -1
   ·have hct:Y7 (XO h)=true:=UQ.2 (hc.2 ⟨hs,ha,hb⟩);simp-dsimp[hb,hct]
   ·have Mm:Y7 (XO h)=false:=U6.2 fun g=>hb (hc.1 g).2.2
    simp-dsimp[hb,Mm]
  ·have Mm:Y7 (XO h)=false:=U6.2 fun g=>ha (hc.1 g).2.1
   simp-dsimp[ha,Mm]
def Nj(t:Int)(c:Bool):Ev:=⟨t,2,0,0,k5,⟨0,0⟩,0,[],Ic,[],c⟩
theorem e7r(t:Int)(c:Bool):(Nj t c).cells=[ci t,ci 2,ci 0,ci 0,cb false,ci 5, .v (.string ⟨#[]⟩),ci 0,ci 0,ci 0, .Z6 3 [],ci 0,ci 0,cb false,ci 0, .v (.string ⟨#[]⟩),cb false,ci 0, .v (.string ⟨#[]⟩), .Z6 9 [], .Z6 5 [],cb c]:=rfl
def Uo(a b:Int):Hs:=⟨[[false]],[EJ 1 a,EJ 2 b,Nj 1 false,nV 2 1 [k5],EI 1,EI 2],[⟨0,k5,[2]⟩]⟩
theorem c6p(a b:Int):(Uo a b).cells=[.Z6 1 [[.Z6 1 [[cb false]]]], .Z6 22 [(EJ 1 a).cells,(EJ 2 b).cells,(Nj 1 false).cells,(nV 2 1 [k5]).cells,(EI 1).cells,(EI 2).cells], .Z6 5 [[ci 0,cb false,ci 5, .v (.string ⟨#[]⟩), .Z6 1 [[ci 2]]]]]:=rfl
theorem Hz(a b:Int):(Uo a b).av= .agg [.iv (.Z6 1 [[.Z6 1 [[cb false]]]]), .iv (.Z6 22 [(EJ 1 a).cells,(EJ 2 b).cells,(Nj 1 false).cells,(nV 2 1 [k5]).cells,(EI 1).cells,(EI 2).cells]), .iv (.Z6 5 [[ci 0,cb false,ci 5, .v (.string ⟨#[]⟩), .Z6 1 [[ci 2]]]])]:=rfl
theorem c8p(a b:Int):ZX prog false RD [vi a,vi b] [] (.agg ((Uo a b).cells.map .iv)) [(4, .box ((Uo a b).cells.map .iv))]:=by
 refine b6u [6,31,36] 4 (Uo a b).cells rfl fW (by simp) (by decide) ?_;simp-dsimp[c8n];rw[c6p];simp[f0R,f1R,f2R,e7r,Yp,k5]
theorem c9p(a b:Int)(d:Nat):ZX prog false RD [vi a,vi b] [] (Uo a b).av [(d, .box ((Uo a b).cells.map .iv))]:=by
 have h:=(c8p a b).Zl (Ren.swap 4 d) (by simp[AV.WV,AV.Vo,AV.Va,Ob.WV])
 have e1:(Ren.swap 4 d).to 4=d:=by simp[Ren.swap,CP]
 have e2:∀ρ:Nat->Nat,AV.VX ρ∘AV.iv=AV.iv:=fun ρ=>funext fun x=>rfl
 have e3:∀ρ:Nat->Nat,AV.VW ρ∘AV.iv=AV.iv:=fun ρ=>funext fun x=>rfl
 have e4:AV.agg ((Uo a b).cells.map .iv)=(Uo a b).av:=rfl;rw[<-e4];simpa[Hp.Zl,AV.Zl,AV.VW,AV.VX,Ob.Zl,e1,e2,e3]using h
theorem c0q:Zo (Uo 5 1)/\Zo (Uo 1 5):=by constructor<;>decide
theorem c1q:XS (Uo 5 1)=[⟨1,2,4,0,k5,false⟩]/\XS (Uo 1 5)=[⟨1,2,4,0,k5,false⟩]:=by
 constructor
 ·unfold XS;rw[if_pos c0q.1]
  decide
 ·unfold XS;rw[if_pos c0q.2]
  decide
theorem c2q:XQ (Uo 5 1) Zt=[⟨1,2,4,0,k5,false⟩]/\XQ (Uo 1 5) Zt=[]:=by
 constructor
 ·unfold XQ;rw[c1q.1];decide
 ·unfold XQ;rw[c1q.2];decide
theorem c3q(a b:Int):(Uo a b).Ok:=by
 refine⟨by show 1<2^63;decide,by show 6<2^63;decide,by show 1<2^63;decide,fun e he=>?_,fun o ho=>?_,fun t ht=>?_,fun o ho=>?_⟩
 ·simp only[Uo,a5E,b1E,or_false]at he
  rcases he with rfl|rfl|rfl|rfl|rfl|rfl<;>exact d9D (h:=Uo a b) (by show(_:Nat)<=1;simp[EJ,EI,nV,Nj]) rfl rfl rfl
 ·simp only[Uo,a1B]at ho;subst ho;decide
 ·simp only[Uo,a1B]at ht;subst ht;decide
 ·simp only[Uo,a1B]at ho;subst ho;decide
theorem c4q(a b:Int):(Uo a b).Rg:=by
 intro e he;simp only[Uo,a5E,b1E,or_false]at he
 rcases he with rfl|rfl|rfl|rfl|rfl|rfl<;>exact⟨by show-(2^63:Int)<=_;simp[EJ,EI,nV,Nj],by simp[EJ,EI,nV,Nj]⟩
theorem c5q(a b:Int):(Uo a b).T3:=⟨by show 6<=100;decide,by show 1<=100;decide⟩
theorem c6q:Wj (Uo 5 1)=some [1,2]:=by
 have hs:Xo (Ye (Uo 5 1).events)=[1,2]:=by
  unfold Xo;simp[Uo,EJ,EI,nV,Nj,Ye,List.mergeSort]
 unfold Wj;rw[if_pos c0q.1,c2q.1,hs]
 decide
theorem c7q:XO (Uo 5 1):=by
 refine⟨c0q.1,?_,?_,?_⟩
 ·unfold YF;rw[if_pos c0q.1];decide
 ·unfold YF;rw[if_pos c0q.1];decide
 ·rw[c2q.1];decide
theorem c8q:ZX prog false Wb [(Uo 5 1).av] [] (.iv (.Z6 8 [[ci 1,ci 2,ci 4,ci 0,cb false,ci 5, .v (.string ⟨#[]⟩),cb false]])) []:=by
 have:=CL (c3q 5 1) (c4q 5 1) (c5q 5 1);rw[c2q.1]at this;exact this
theorem c9q:ZX prog false Wb [(Uo 1 5).av] [] (.iv (.Z6 8 [])) []:=by
 have:=CL (c3q 1 5) (c4q 1 5) (c5q 1 5);rw[c2q.2]at this;exact this
theorem c0r:ZX prog false Qg [(Uo 5 1).av] [] (.Zp [.iv (.Z6 1 [[ci 1],[ci 2]]),vb true]) []:=by
 have:=c3X (c3q 5 1) (c4q 5 1) (c5q 5 1);unfold Ss at this;rw[c6q]at this;exact this
theorem c1r:ZX prog true VL [(Uo 5 1).av] [] (vb true) []:=by
 have:=c4X (c3q 5 1) (c4q 5 1) (c5q 5 1);rw[UQ.2 c7q]at this;exact this
theorem c2r:ZX prog true RE [.iv (.Z6 1 [[ci 1],[ci 2]]), .iv (.Z6 1 [[ci 1],[ci 2]])] [] (vb true) []:=by
 have:=b8H [1,2] [1,2] (by decide);rw[decide_eq_true rfl]at this;exact this
theorem c3r:ZX prog true RF [] [] (vb true) []:=by
 refine YG jj (by simp) (by decide) rfl ?_;simp-dsimp[c6n];refine b7u (c9p 5 1 5) (by decide) rfl (by simp) (by simp) ?_;simp-dsimp[Hz];refine Y6 c8q rfl (by simp[Hz]) (by simp[Hz]) (by simp) (by simp) ?_;simp-dsimp;refine b7u (c9p 1 5 7) (by decide) rfl (by simp) (by simp) ?_;simp-dsimp[Hz];refine Y6 c9q rfl (by simp[Hz]) (by simp[Hz]) (by simp) (by simp) ?_;simp-dsimp
 refine b7u (c9p 5 1 10) (by decide) rfl (by simp) (by simp) ?_;simp-dsimp[Hz];refine Y6 c0r rfl (by simp[Hz]) (by simp[Hz]) (by simp) (by simp) ?_;simp-dsimp;refine ZN c2r (by simp) (by simp) ?_;simp-dsimp;refine b7u (c9p 5 1 45) (by decide) rfl (by simp) (by simp) ?_;simp-dsimp[Hz];refine ZN c1r (by simp[Hz]) (by simp[Hz]) ?_;simp-dsimp
theorem c4r{h:Hs}(ZY:h.Ok):ZX prog true Lv [h.av] [] (vb (Y7 (YM h)&&decide ((XS h).length<=14))) []:=by
 refine YG je (by simp[Hs.av]) (by decide) rfl ?_;simp-dsimp[c7n,Hs.av];refine ZN (d7m ZY) (by simp[Hs.av]) (by simp[Hs.av]) ?_
 by_cases hs:YM h
 ·have YD:Y7 (YM h)=true:=UQ.2 hs;simp-dsimp[YD];refine Y6 (d1W ZY (d4g hs)) rfl (by simp[Hs.av]) (by simp[Hs.av]) (by simp) (by simp) ?_;simp-dsimp[ZW];rw[YD,c0S];exact decide_eq_decide.2 ⟨fun g=>by omega,fun g=>by omega⟩
 ·have Oj:Y7 (YM h)=false:=U6.2 hs;simp-dsimp[Oj]
theorem I4{P:Program}{f:Nat}{t:TypeId}{cs:List IV}{k:IntKind}(hu:P.underlying t=some (.int k))(h:Vd P f t cs):∃n,cs=[.v (.int k n)]/\(Lit.int k n).wf=true:=by
 cases f with
 |zero=>exact h.elim
 |succ f=>simpa only[Vd,hu]using h
theorem d8k{P:Program}{f:Nat}{t:TypeId}{cs:List IV}(hu:P.underlying t=some .bool)(h:Vd P f t cs):∃b,cs=[.v (.bool b)]:=by
 cases f with
 |zero=>exact h.elim
 |succ f=>simpa only[Vd,hu]using h
theorem d9k{P:Program}{f:Nat}{t:TypeId}{cs:List IV}(hu:P.underlying t=some .string)(h:Vd P f t cs):∃s:ByteArray,cs=[.v (.string s)]/\s.size<2^63:=by
 cases f with
 |zero=>exact h.elim
 |succ f=>
  simp only[Vd,hu]at h;obtain⟨s,h1,h2⟩:=h;refine⟨s,h1,c3I h2 (by decide)⟩
theorem nG{P:Program}{f:Nat}{t e n:Nat}{cs:List IV}(hu:P.underlying t=some (.slice e))(hn:P.cellsOf e=n)(h:Vd P f t cs):∃f',f=f'+1/\∃xs,cs=[.Z6 n xs]/\xs.length<2^63/\∀x∈xs,Vd P f' e x:=by
 cases f with
 |zero=>exact h.elim
 |succ f=>
  simp only[Vd,hu,hn]at h;obtain⟨xs,h1,h2,h3⟩:=h;exact⟨f,rfl,xs,h1,c3I h2 (by decide),h3⟩
def fieldsOf(P:Program)(t:TypeId):Option (List (Nat×Nat×Nat)):=match P.underlying t with
 |some (.struct fs)=>some (fs.toList.map fun f=>(f.type,f.offset,P.cellsOf f.type))
 | _=>none
theorem nF{P:Program}{f:Nat}{t n:Nat}{l:List (Nat×Nat×Nat)}{cs:List IV}(hu:fieldsOf P t=some l)(hn:P.cellsOf t=n)(h:Vd P f t cs):
 ∃f',f=f'+1/\cs.length=n/\∀p∈l,Vd P f' p.1 ((cs.drop p.2.1).take p.2.2):=by
 unfold fieldsOf at hu;split at hu
 ·rename_i fs hu'
  cases f with
  |zero=>exact h.elim
  |succ f=>
   simp only[Vd,hu',hn]at h;refine⟨f,rfl,h.1,fun p hp=>?_⟩;cases hu;obtain⟨Wq,h1,rfl⟩:=a0E.1 hp;exact h.2 Wq h1
 ·cases hu
theorem T0{α:Type}(cs:List α)(o n:Nat){x:List α}(h:(cs.drop o).take n=x):cs.drop o=x++cs.drop (o+n):=by
 rw[<-h, <-List.drop_drop,List.take_append_drop]
theorem nE{α:Type}{cs:List α}{o:Nat}(h:cs.length=o):cs.drop o=[]:=List.drop_eq_nil_of_le (by omega)
theorem qP{α β:Type}{f:α->β}{Q:α->Prop}:∀{xs:List β},(∀x,x∈xs->∃p,Q p/\x=f p)->∃ps:List α,xs=ps.map f/\∀p,p∈ps->Q p
 | [],_=>⟨[],rfl,fun _ h=>by cases h⟩
 |x::r,h=>by
  obtain⟨p,h1,rfl⟩:=h x a4E
  obtain⟨ps,rfl,h3⟩:=qP (xs:=r) fun y hy=>h y (a9C _ hy)
  exact⟨p::ps,rfl,fun q hq=>by
   rcases a5E.1 hq with rfl|hq
   ·exact h1
   ·exact h3 q hq⟩
section
theorem u4:prog.underlying 4=some .bool:=by kernel_rfl
theorem u2:prog.underlying 2=some (.int .i64):=by kernel_rfl
theorem u3:prog.underlying 3=some (.int .i64):=by kernel_rfl
theorem u9:prog.underlying 9=some .string:=by kernel_rfl
theorem d5l{f:Nat}{cs:List IV}(h:Vd prog f 33 cs):∃v:Vl,cs=v.cells/\v.s.size<2^63:=by
 obtain⟨f,rfl,hl,hf⟩:=nF (P:=prog) (t:=33) (n:=3) (l:=[(4,0,1),(2,1,1),(9,2,1)]) (by kernel_rfl) (by kernel_rfl) h;obtain⟨b,h1⟩:=d8k u4 (hf (4,0,1) (by decide));obtain⟨n,h2,_⟩:=I4 u2 (hf (2,1,1) (by decide));obtain⟨s,h3,h4⟩:=d9k u9 (hf (9,2,1) (by decide));refine⟨⟨b,n,s⟩,?_,h4⟩;have e:=T0 cs 0 1 h1;rw[T0 cs 1 1 h2,T0 cs 2 1 h3,nE hl]at e
 exact e
theorem d6l{f:Nat}{cs:List IV}(h:Vd prog f 39 cs):∃v:Vs,cs=v.cells:=by
 obtain⟨f,rfl,hl,hf⟩:=nF (P:=prog) (t:=39) (n:=2) (l:=[(3,0,1),(3,1,1)]) (by kernel_rfl) (by kernel_rfl) h;obtain⟨b,h1,_⟩:=I4 u3 (hf (3,0,1) (by decide));obtain⟨n,h2,_⟩:=I4 u3 (hf (3,1,1) (by decide));refine⟨⟨b,n⟩,?_⟩;have e:=T0 cs 0 1 h1;rw[T0 cs 1 1 h2,nE hl]at e;exact e
theorem d7l{f:Nat}{cs:List IV}(h:Vd prog f 42 cs):∃r:List Vl,cs=[.Z6 3 (Yp r)]/\r.length<2^63:=by
 obtain⟨f,rfl,xs,rfl,hl,hx⟩:=nG (P:=prog) (t:=42) (e:=33) (n:=3) (by kernel_rfl) (by kernel_rfl) h
 obtain⟨r,rfl,_⟩:=qP (f:=Vl.cells) (Q:=fun _=>True) (xs:=xs) fun x hm=>by
  obtain⟨v,h1,_⟩:=d5l (hx x hm);exact⟨v,trivial,h1⟩
 exact⟨r,rfl,by simpa using hl⟩
theorem f3S:∀{f:Nat} {cs:List IV},Vd prog f 45 cs->∃p:Pd,cs=p.cells/\p.Ok:=by
 intro f
 induction f using Nat.strongRecOn with
 |ind f ih=>
  intro cs h;obtain⟨f1,rfl,hl,hf⟩:=nF (P:=prog) (t:=45) (n:=9) (l:=[(3,0,1),(3,1,1),(33,2,3),(33,5,3),(43,8,1)]) (by kernel_rfl) (by kernel_rfl) h;obtain⟨o,h1,_⟩:=I4 u3 (hf (3,0,1) (by decide));obtain⟨c,h2,_⟩:=I4 u3 (hf (3,1,1) (by decide));obtain⟨v,h3,hv⟩:=d5l (hf (33,2,3) (by decide));obtain⟨w,h4,hw⟩:=d5l (hf (33,5,3) (by decide))
  obtain⟨f2,rfl,xs,h5,Kt,hx⟩:=nG (P:=prog) (t:=43) (e:=45) (n:=9) (by kernel_rfl) (by kernel_rfl) (hf (43,8,1) (by decide))
  obtain⟨ps,rfl,FD⟩:=qP (f:=Pd.cells) (Q:=Pd.Ok) (xs:=xs) fun x hm=>by
   obtain⟨p,g1,g2⟩:=ih f2 (by omega) (hx x hm);exact⟨p,g2,g1⟩
  refine⟨.mk o c v w ps,?_, .mk _ (by rw[a5O]at Kt;exact Kt) hv hw FD⟩;have e:=T0 cs 0 1 h1;rw[T0 cs 1 1 h2,T0 cs 2 3 h3,T0 cs 5 3 h4,T0 cs 8 1 h5,nE hl]at e;rw[Pd.Z8];exact e
theorem f4S{f:Nat}{cs:List IV}(h:Vd prog f 54 cs):∃r:Rf,cs=r.cells/\r.key.s.size<2^63:=by
 obtain⟨f,rfl,hl,hf⟩:=nF (P:=prog) (t:=54) (n:=5) (l:=[(33,0,3),(39,3,2)]) (by kernel_rfl) (by kernel_rfl) h;obtain⟨v,h1,hv⟩:=d5l (hf (33,0,3) (by decide));obtain⟨n,h2⟩:=d6l (hf (39,3,2) (by decide));refine⟨⟨v,n⟩,?_,hv⟩;have e:=T0 cs 0 3 h1;rw[T0 cs 3 2 h2,nE hl]at e;exact e
theorem d8l{n:Int}(h:(Lit.int .i64 n).wf=true): -(2^63)<=n/\n<2^63:=by
 unfold Lit.wf at h;rw[a3C,decide_eq_true_eq,decide_eq_true_eq]at h
 have h1:IntKind.min .i64= -(2^63):=by decide
 have h2:IntKind.max .i64=2^63-1:=by decide
 rw[h1,h2]at h;omega
theorem f5S{f:Nat}{cs:List IV}(h:Vd prog f 48 cs):∃e:Ev,cs=e.cells/\e.Ok/\(-(2^63)<=e.txn/\e.txn<2^63):=by
 obtain⟨f,rfl,hl,hf⟩:=nF (P:=prog) (t:=48) (n:=22) (l:=[(3,0,1),(3,1,1),(3,2,1),(3,3,1),(33,4,3),(39,7,2),(3,9,1),(42,10,1),(45,11,9),(46,20,1),(4,21,1)]) (by kernel_rfl) (by kernel_rfl) h;obtain⟨a1,h1,r1⟩:=I4 u3 (hf (3,0,1) (by decide));obtain⟨a2,h2,_⟩:=I4 u3 (hf (3,1,1) (by decide))
 obtain⟨a3,h3,_⟩:=I4 u3 (hf (3,2,1) (by decide));obtain⟨a4,h4,_⟩:=I4 u3 (hf (3,3,1) (by decide));obtain⟨k,h5,hk⟩:=d5l (hf (33,4,3) (by decide));obtain⟨v,h6⟩:=d6l (hf (39,7,2) (by decide));obtain⟨n,h7,_⟩:=I4 u3 (hf (3,9,1) (by decide));obtain⟨r,h8,hr⟩:=d7l (hf (42,10,1) (by decide));obtain⟨p,h9,hp⟩:=f3S (hf (45,11,9) (by decide))
 obtain⟨f2,rfl,xs,UI,Kt,hx⟩:=nG (P:=prog) (t:=46) (e:=54) (n:=5) (by kernel_rfl) (by kernel_rfl) (hf (46,20,1) (by decide));obtain⟨b,Tl⟩:=d8k u4 (hf (4,21,1) (by decide))
 obtain⟨rs,rfl,hrs⟩:=qP (f:=Rf.cells) (Q:=fun r=>r.key.s.size<2^63) (xs:=xs) fun x hm=>by
  obtain⟨p,g1,g2⟩:=f4S (hx x hm);exact⟨p,g2,g1⟩
 refine⟨⟨a1,a2,a3,a4,k,v,n,r,p,rs,b⟩,?_,⟨hr,by simpa using Kt,hp,hk,hrs⟩,d8l r1⟩;have e:=T0 cs 0 1 h1;rw[T0 cs 1 1 h2,T0 cs 2 1 h3,T0 cs 3 1 h4,T0 cs 4 3 h5,T0 cs 7 2 h6,T0 cs 9 1 h7,T0 cs 10 1 h8,T0 cs 11 9 h9,T0 cs 20 1 UI,T0 cs 21 1 Tl,nE hl]at e;rw[Ev.Z8];rw[Pd.Z8]at e;exact e
theorem d9l{f:Nat}{cs:List IV}(h:Vd prog f 49 cs):∃r:List Int,cs=[.Z6 1 (YW r)]/\r.length<2^63:=by
 obtain⟨f,rfl,xs,rfl,hl,hx⟩:=nG (P:=prog) (t:=49) (e:=3) (n:=1) (by kernel_rfl) (by kernel_rfl) h
 obtain⟨r,rfl,_⟩:=qP (f:=fun i=>[ci i]) (Q:=fun _=>True) (xs:=xs) fun x hm=>by
  obtain⟨v,h1,_⟩:=I4 u3 (hx x hm);exact⟨v,trivial,h1⟩
 exact⟨r,rfl,by simpa using hl⟩
theorem d0m{f:Nat}{cs:List IV}(h:Vd prog f 67 cs):∃r:List Bool,cs=[.Z6 1 (nT r)]/\r.length<2^63:=by
 obtain⟨f,rfl,xs,rfl,hl,hx⟩:=nG (P:=prog) (t:=67) (e:=4) (n:=1) (by kernel_rfl) (by kernel_rfl) h
 obtain⟨r,rfl,_⟩:=qP (f:=fun b=>[cb b]) (Q:=fun _=>True) (xs:=xs) fun x hm=>by
  obtain⟨v,h1⟩:=d8k u4 (hx x hm);exact⟨v,trivial,h1⟩
 exact⟨r,rfl,by simpa using hl⟩
theorem d1m{f:Nat}{cs:List IV}(h:Vd prog f 51 cs):∃o:Ins,cs=o.cells/\(o.ZU.length<2^63/\o.key.s.size<2^63):=by
 obtain⟨f,rfl,hl,hf⟩:=nF (P:=prog) (t:=51) (n:=5) (l:=[(3,0,1),(33,1,3),(49,4,1)]) (by kernel_rfl) (by kernel_rfl) h;obtain⟨a,h1,_⟩:=I4 u3 (hf (3,0,1) (by decide));obtain⟨k,h2,hk⟩:=d5l (hf (33,1,3) (by decide));obtain⟨r,h3,hr⟩:=d9l (hf (49,4,1) (by decide));refine⟨⟨a,k,r⟩,?_,hr,hk⟩;have e:=T0 cs 0 1 h1
 rw[T0 cs 1 3 h2,T0 cs 4 1 h3,nE hl]at e;exact e
theorem f6S{f:Nat}{cs:List IV}(h:Vd prog f 69 cs):∃t:Tb,cs=[V4 t]/\t.length<2^63:=by
 obtain⟨f,rfl,hl,hf⟩:=nF (P:=prog) (t:=69) (n:=1) (l:=[(67,0,1)]) (by kernel_rfl) (by kernel_rfl) h;obtain⟨r,h1,hr⟩:=d0m (hf (67,0,1) (by decide));refine⟨r,?_,hr⟩;have e:=T0 cs 0 1 h1;rw[nE hl]at e;exact e
theorem d2m{f:Nat}{cs:List IV}(h:Vd prog f 26 cs):∃h:Hs,cs=h.cells/\h.Ok/\h.Rg:=by
 obtain⟨f,rfl,hl,hf⟩:=nF (P:=prog) (t:=26) (n:=3) (l:=[(22,0,1),(23,1,1),(24,2,1)]) (by kernel_rfl) (by kernel_rfl) h;obtain⟨f1,e1,xs1,h1,l1,g1⟩:=nG (P:=prog) (t:=22) (e:=69) (n:=1) (by kernel_rfl) (by kernel_rfl) (hf (22,0,1) (by decide))
 obtain⟨f2,e2,xs2,h2,l2,g2⟩:=nG (P:=prog) (t:=23) (e:=48) (n:=22) (by kernel_rfl) (by kernel_rfl) (hf (23,1,1) (by decide));obtain⟨f3,e3,xs3,h3,l3,g3⟩:=nG (P:=prog) (t:=24) (e:=51) (n:=5) (by kernel_rfl) (by kernel_rfl) (hf (24,2,1) (by decide))
 obtain⟨ts,rfl,ht⟩:=qP (f:=fun t:Tb=>[V4 t]) (Q:=fun t=>t.length<2^63) (xs:=xs1) fun x hm=>by
  obtain⟨p,a1,a2⟩:=f6S (g1 x hm);exact⟨p,a2,a1⟩
 obtain⟨es,rfl,he⟩:=qP (f:=Ev.cells) (Q:=fun e=>e.Ok/\(-(2^63)<=e.txn/\e.txn<2^63)) (xs:=xs2) fun x hm=>by
  obtain⟨p,a1,a2⟩:=f5S (g2 x hm);exact⟨p,a2,a1⟩
 obtain⟨os,rfl,ho⟩:=qP (f:=Ins.cells) (Q:=fun o=>o.ZU.length<2^63/\o.key.s.size<2^63) (xs:=xs3) fun x hm=>by
  obtain⟨p,a1,a2⟩:=d1m (g3 x hm);exact⟨p,a2,a1⟩
 refine⟨⟨ts,es,os⟩,?_,⟨by simpa using l1,by simpa using l2,by simpa using l3,fun e h=>(he e h).1,fun o h=>(ho o h).1,ht,fun o h=>(ho o h).2⟩,fun e h=>(he e h).2⟩;have e:=T0 cs 0 1 h1;rw[T0 cs 1 1 h2,T0 cs 2 1 h3,nE hl]at e;exact e
end
end Go.Rt
end

section
namespace Go.Proofs.YthkdpdpgmhmgoaaGreat
open Go.ChangeShapes Go.WideShapes Go.ChangeAt Go.RowKit Go.Vm Go.Rt
open Go.Proofs (Tryz.prog)
theorem own:ownKnob Tryz.prog.godebug=none:=by kernel_rfl
theorem e3f:laidOutB Tryz.prog=true:=by kernel_rfl
def IW:List TypeId:=[26,22,23,24,69,67,4,48,3,33,2,9,39,42,45,43,46,54,51,49]
theorem e4f:d9m Tryz.prog IW=true:=by kernel_rfl
theorem e5f:∀t∈[26,33,3,4],Tryz.prog.readableRec t=true/\t<Tryz.prog.types.size:=by
 intro t ht;simp only[a5E,b1E,or_false]at ht
 rcases ht with rfl|rfl|rfl|rfl
 ·exact⟨by kernel_rfl,of_decide_eq_true (by kernel_rfl)⟩
 ·exact⟨by kernel_rfl,of_decide_eq_true (by kernel_rfl)⟩
 ·exact⟨by kernel_rfl,of_decide_eq_true (by kernel_rfl)⟩
 ·exact⟨by kernel_rfl,of_decide_eq_true (by kernel_rfl)⟩
theorem e6f:XT Tryz.prog 26=true:=by kernel_rfl
theorem g2V:XT Tryz.prog 3=false:=by kernel_rfl
theorem g3V:XT Tryz.prog 4=false:=by kernel_rfl
theorem e7f{Wt:List (List IV)}(h:d3u Tryz.prog [26] Wt):∃h:Hs,h.Ok/\h.Rg/\Qq Tryz.prog [26] Wt=[h.av]:=by
 match Wt,h with
 | [cs],⟨⟨f,h1⟩,_⟩=>
  obtain⟨h,rfl,ZY,Xs⟩:=d2m h1;exact⟨h,ZY,Xs,by simp only[Qq,e6f];rfl⟩
theorem e8f{Wt:List (List IV)}(h:d3u Tryz.prog [26,3,3] Wt):∃(h:Hs) (n m:Int),h.Ok/\h.Rg/\(-(2^63)<=n/\n<2^63)/\(-(2^63)<=m/\m<2^63)/\Qq Tryz.prog [26,3,3] Wt=[h.av,vi n,vi m]:=by
 match Wt,h with
 | [cs,ds,es],⟨⟨f,h1⟩,⟨i,h2⟩,⟨j,h3⟩,_⟩=>
  obtain⟨h,rfl,ZY,Xs⟩:=d2m h1;obtain⟨n,rfl,hn⟩:=I4 u3 h2;obtain⟨m,rfl,hm⟩:=I4 u3 h3;exact⟨h,n,m,ZY,Xs,d8l hn,d8l hm,by simp only[Qq,e6f,g2V];rfl⟩
theorem e9f{Wt:List (List IV)}(h:d3u Tryz.prog [26,4] Wt):∃(h:Hs) (b:Bool),h.Ok/\h.Rg/\Qq Tryz.prog [26,4] Wt=[h.av,vb b]:=by
 match Wt,h with
 | [cs,ds],⟨⟨f,h1⟩,⟨i,h2⟩,_⟩=>
  obtain⟨h,rfl,ZY,Xs⟩:=d2m h1;obtain⟨b,rfl⟩:=d8k u4 h2;exact⟨h,b,ZY,Xs,by simp only[Qq,e6f,g3V];rfl⟩
end Go.Proofs.YthkdpdpgmhmgoaaGreat
end

section
namespace Go.Rt
open Go.Vm
section
variable{h:Hs}
end
section
variable{p:Ev->Bool}{es:List Ev}
end
section
variable{h:Hs}
theorem e7x(hw:Zo h){t:Int}:∀{j:Nat},MW (h.events.take j) t->∃x,x∈h.events.take j/\x.txn=t/\x.kind=1
 | 0,hb=>by simp at hb
 |j+1,hb=>by
  cases hj:h.events[j]? with
  |none=>
   have:h.events.take (j+1)=h.events.take j:=by rw[a3I,hj];simp
   rw[this]at hb⊢;exact e7x hw hb
  |some e=>
   rw[Qp hj]at hb⊢
   rcases d6Q.1 hb with hb|rfl
   ·obtain⟨x,h1,h2⟩:=e7x hw hb;exact⟨x,a7N _ h1,h2⟩
   ·by_cases k1:e.kind=1
    ·exact⟨e,by simp,rfl,k1⟩
    ·obtain⟨x,h1,h2⟩:=e7x hw ((MT hw hj).1.1.2.2.2.2.2 k1);exact⟨x,a7N _ h1,h2⟩
end
def LvF(f:Ev->Ev):Prop:=∀e,f e={e with level:=(f e).level}
def Hs.Zy(h:Hs)(f:Ev->Ev):Hs:=⟨h.tables,h.events.map f,h.order⟩
theorem b1Z{p:Ev->Bool}{f:Ev->Ev}(l:List Ev):Wr p (l.map f)=(Wr (fun e=>p (f e)) l).map f:=by
 rw[d6i,d6i, <-List.map_reverse,List.find?_map];rfl
section
variable{f:Ev->Ev}(hf:LvF f)
include hf
theorem PX(e:Ev):(f e).txn=e.txn:=by rw[hf e]
theorem Ot(e:Ev):(f e).kind=e.kind:=by rw[hf e]
theorem Cf(e:Ev):(f e).table=e.table:=by rw[hf e]
theorem oe(e:Ev):(f e).key=e.key:=by rw[hf e]
theorem b6Z(e:Ev):(f e).Z4=e.Z4:=by rw[hf e]
theorem kI(e:Ev):(f e).n=e.n:=by rw[hf e]
theorem b7Z(e:Ev):(f e).row=e.row:=by rw[hf e]
theorem b8Z(e:Ev):(f e).pred=e.pred:=by rw[hf e]
theorem oa(e:Ev):(f e).refs=e.refs:=by rw[hf e]
theorem c0a(txn table:Int)(k:Vl)(e:Ev):(f e).Sw txn table k=e.Sw txn table k:=by
 unfold Ev.Sw;rw[Ot hf,PX hf,Cf hf,oe hf]
theorem c1a(txn table:Int)(k:Vl)(m:Int)(e:Ev):(f e).Us txn table k m=e.Us txn table k m:=by
 unfold Ev.Us;rw[c0a hf,kI hf]
theorem c2a(t:Int)(e:Ev):(f e).UP t=e.UP t:=by
 unfold Ev.UP;rw[Ot hf,PX hf]
theorem c3a(es:List Ev)(txn table:Int)(k:Vl):Yk (es.map f) txn table k=Yk es txn table k:=by
 unfold Yk;rw[d3A,a5O]
 congr 2
 funext e
 exact c0a hf txn table k e
theorem c4a(es:List Ev)(t:Int):Xd (es.map f) t=Xd es t:=by
 induction es with
 |nil=>rfl
 |cons x r ih=>
  rw[a0I,Xd,Xd,ih,Ot hf]
  have h1:Ev.ends t (f x)↔Ev.ends t x:=by unfold Ev.ends;rw[PX hf,Ot hf]
  by_cases h2:Ev.ends t x
  ·rw[if_pos h2,if_pos (h1.2 h2)]
  ·rw[if_neg h2,if_neg fun g=>h2 (h1.1 g)]
theorem c5a(es:List Ev):Ye (es.map f)=Ye es:=by
 unfold Ye;rw[d3A,List.map_map]
 have h1:((fun e:Ev=>decide (e.kind=5))∘f)=fun e:Ev=>decide (e.kind=5):=funext fun e=>by simp only[d2W];rw[Ot hf]
 have h2:(Ev.txn∘f)=Ev.txn:=funext fun e=>PX hf e
 rw[h1,h2]
theorem c6a(es:List Ev)(table:Int)(k:Vl)(v:Vs):WK (es.map f) table k v=WK es table k v:=by
 unfold WK;rw[b1Z]
 have h1:(fun e=>Ev.Us v.txn table k v.n (f e))=Ev.Us v.txn table k v.n:=funext fun e=>c1a hf _ _ _ _ e
 have h2:(Ev.row∘f)=Ev.row:=funext fun e=>b7Z hf e
 rw[h1,c7i,h2]
theorem c7a(es:List Ev)(os:List Ins)(table:Int)(k:Vl):Zu (es.map f) os table k=Zu es os table k:=by
 unfold Zu SG HD
 have h1:∀t table k,(fun e=>Ev.Sw t table k (f e))=Ev.Sw t table k:=fun t table k=>funext fun e=>c0a hf _ _ _ e
 have h2:(Ev.n∘f)=Ev.n:=funext fun e=>kI hf e
 simp only[b1Z,h1,c7i,h2]
theorem c8a(es:List Ev)(os:List Ins)(table:Int)(k:Vl)(v:Vs):Yo (es.map f) os table k v=Yo es os table k v:=by
 unfold Yo;rw[c6a hf,c7a hf]
theorem c9a(es:List Ev)(os:List Ins)(table:Int)(k:Vl)(i:Int)(p:Pd):Vh (es.map f) os table k i p=Vh es os table k i p:=by
 unfold Vh Pz;simp only[c6a hf,c7a hf]
theorem c0b(h:Hs)(e:Ev):SC (h.Zy f) (f e)=SC h e:=by
 unfold SC LB HW IL MN QD QE Qn Hs.Zy;simp only[c4a hf,c8a hf,c7a hf,c9a hf,PX hf,Ot hf,Cf hf,oe hf,b6Z hf,b8Z hf,oa hf]
 have hc:(f e).cur=e.cur:=by rw[hf e]
 simp only[hc]
theorem c1b(h:Hs):ML (h.Zy f)=ML h:=by
 unfold ML
 show h.order.flatMap Sf++(h.events.map f).flatMap (SC (h.Zy f))=_
 rw[List.flatMap_map]
 congr 1
 have:(fun a=>SC (h.Zy f) (f a))=SC h:=funext fun e=>c0b hf h e
 rw[this]
theorem c2b{h:Hs}(hw:Zo h)(hl:∀e,e∈h.events->e.kind=1->1<=(f e).level/\(f e).level<=5):Zo (h.Zy f):=by
 refine⟨hw.1,fun i hi e' XF=>?_,fun i hi o ho=>?_⟩
 ·change (h.events.map f)[i]? =some e' at XF
  rw[a1C,a9R]at XF;obtain⟨e,he,rfl⟩:=XF;obtain⟨⟨⟨f1,f2,f3,f4,f5,f6⟩,hR,hW,hP⟩,hI⟩:=MT hw he
  show M1 (h.Zy f) ((h.events.map f).take i) (f e)/\C6 (h.Zy f) (f e)
  rw[<-c7D]
  have WA:∀{x:Ev} {l:List Ev},x∈l.map f->∃y,y∈l/\f y=x:=fun g=>a0E.1 g
  refine⟨⟨⟨by rw[PX hf];exact f1,by rw[Ot hf];exact f2,by rw[Ot hf];exact f3,?_,fun k1=>?_,fun k1=>?_⟩,fun k2=>?_,fun k3=>?_,fun k4=>?_⟩,fun k3 h5=>?_⟩
  ·intro x hx;obtain⟨y,hy,rfl⟩:=WA hx;have:=f4 y hy;rw[PX hf,PX hf,Ot hf];exact this
  ·rw[Ot hf]at k1;refine⟨fun hb=>(f5 k1).1 ?_,hl e (a6y he) k1⟩;obtain⟨x,hx,g⟩:=hb;obtain⟨y,hy,rfl⟩:=WA hx;rw[PX hf,PX hf]at g;exact⟨y,hy,g⟩
  ·rw[Ot hf]at k1;obtain⟨x,hx,g⟩:=f6 k1;exact⟨f x,a0E.2 ⟨x,hx,rfl⟩,by rw[PX hf,PX hf];exact g⟩
  ·rw[Ot hf]at k2;have:=hR k2;unfold Kw M5 at this⊢;simp only[c3a hf,PX hf,Cf hf,oe hf,b6Z hf];exact this
  ·rw[Ot hf]at k3;have:=hW k3;unfold HV at this⊢;simp only[c3a hf,PX hf,Cf hf,oe hf,kI hf,b7Z hf];exact this
  ·rw[Ot hf]at k4;obtain⟨g1,g2,g3⟩:=hP k4;refine⟨by rw[Cf hf,b8Z hf];exact g1,?_,fun x hx=>?_⟩
   ·rw[oa hf];intro q hq r hr;rw[oa hf]at hr;have:=g2 q hq r hr;unfold M5 at this⊢;simp only[c3a hf,Cf hf,oa hf];exact this
   ·obtain⟨y,hy,rfl⟩:=WA hx;have:=g3 y hy;unfold d6t at this⊢;simp only[c3a hf,PX hf,Cf hf,oe hf,Ot hf,oa hf];exact this
  ·rw[Ot hf]at k3
   have h5':Xd h.events e.txn=5:=by
    have:=h5;unfold Hs.Zy at this;rwa [c4a hf,PX hf]at this
   have:=hI k3 h5';unfold Hs.Zy;simp only[Cf hf,oe hf,PX hf];exact this
 ·obtain⟨g1,g2,g3⟩:=c3i hw (h:=h) ho;refine⟨g1,fun q hq t ht=>?_,g3⟩;have:=g2 q hq t ht;unfold Hs.Zy;rw[c4a hf,c3a hf];exact this
theorem c3b{h:Hs}(hw:Zo h)(Uq:Zo (h.Zy f)):XS (h.Zy f)=XS h:=by
 unfold XS;rw[if_pos hw,if_pos Uq,c1b hf]
theorem c4b{h:Hs}(ZY:h.Ok):(h.Zy f).Ok:=by
 refine⟨ZY.tables,by show(h.events.map f).length<_;rw[a5O];exact ZY.events,ZY.order,fun e he=>?_,ZY.ZU,ZY.tb,ZY.Cd⟩
 obtain⟨y,hy,rfl⟩:=a0E.1 he;have:=ZY.ev y hy;exact⟨by rw[b7Z hf];exact this.row,by rw[oa hf];exact this.refs,by rw[b8Z hf];exact this.pred,by rw[oe hf];exact this.key,by rw[oa hf];exact this.f2Q⟩
theorem c5b{h:Hs}(Xs:h.Rg):(h.Zy f).Rg:=by
 intro e he;obtain⟨y,hy,rfl⟩:=a0E.1 he;rw[PX hf];exact Xs y hy
theorem c6b{h:Hs}(hm:h.T3):(h.Zy f).T3:=⟨by show(h.events.map f).length<=_;rw[a5O];exact hm.1,hm.2⟩
end
theorem c7b{f:Ev->Ev}(hf:LvF f)(es:List Ev)(t:Int):Yb (es.map f) t=((Wr (Ev.UP t) es).map fun e=>(f e).level).getD 0:=by
 unfold Yb;rw[b1Z]
 have h1:(fun e=>Ev.UP t (f e))=Ev.UP t:=funext fun e=>c2a hf t e
 rw[h1,c7i];rfl
theorem c8b{h:Hs}(hw:Zo h){t:Int}(ht:t∈Ye h.events):∃e,Wr (Ev.UP t) h.events=some e/\e∈h.events/\e.kind=1/\e.txn=t:=by
 unfold Ye at ht;obtain⟨x,hx,rfl⟩:=a0E.1 ht;obtain⟨M4,hx2⟩:=a2E.1 hx;obtain⟨i,hi⟩:=a9B M4
 have hk:x.kind=5:=by simpa using hx2
 obtain⟨y,h1,h2,h3⟩:=e7x hw ((MT hw hi).1.1.2.2.2.2.2 (by omega));have hy:=a6U h1;exact⟨y,b9y (b0z hw) hy (by simp[Ev.UP,h2,h3]),hy,h3,h2⟩
def Zn(n:Int)(e:Ev):Ev:=if e.kind=1 then {e with level:=n}else e
def YV(t n:Int)(e:Ev):Ev:=if e.kind=1/\e.txn=t then {e with level:=n}else e
theorem b6A(n:Int):LvF (Zn n):=by intro e;unfold Zn;split<;>rfl
theorem Fx(t n:Int):LvF (YV t n):=by intro e;unfold YV;split<;>rfl
theorem b8A{n:Int}{h:Hs}(hw:Zo (h.Zy (Zn n))){t:Int}(ht:t∈Ye (h.Zy (Zn n)).events):Yb (h.Zy (Zn n)).events t=n:=by
 obtain⟨e,h1,h2,h3,h4⟩:=c8b hw ht;unfold Yb;rw[h1];obtain⟨y,hy,rfl⟩:=a0E.1 h2
 have hk:y.kind=1:=by rw[<-Ot (b6A n) y];exact h3
 show(Zn n y).level=n
 unfold Zn;rw[if_pos hk]
theorem b9A{n:Int}{h:Hs}(hw:Zo (h.Zy (Zn n))){e:Eg}(he:e∈XS (h.Zy (Zn n))):
 Yb (h.Zy (Zn n)).events e.Z4=n/\Yb (h.Zy (Zn n)).events e.to=n:=by
 have:=d6w hw ((a6N hw).1 he).1;exact⟨b8A hw this.Z4,b8A hw this.to⟩
theorem b0B{h:Hs}(hw:Zo (h.Zy (Zn 5))):XQ (h.Zy (Zn 5)) Zt=XS (h.Zy (Zn 5)):=by
 unfold XQ
 refine d4i.2 fun e he=>?_
 obtain⟨a,b⟩:=b9A hw he;rw[a,b];unfold Zt
 repeat' split
 all_goals rfl
theorem b1B{h:Hs}(hw:Zo (h.Zy (Zn 5))):XQ (h.Zy (Zn 5)) Uf=XS (h.Zy (Zn 5)):=by
 unfold XQ
 refine d4i.2 fun e he=>?_
 obtain⟨a,b⟩:=b9A hw he;rw[a,b];unfold Uf Zt
 repeat' split
 all_goals rfl
theorem b2B{h:Hs}(hw:Zo (h.Zy (Zn 1))):XQ (h.Zy (Zn 1)) Zt=(XS (h.Zy (Zn 1))).filter fun e=>decide (e.kind=1):=by
 unfold XQ
 refine d2n fun e he=>?_
 obtain⟨a,b⟩:=b9A hw he;rw[a,b];unfold Zt;split
 ·rename_i h1;simp[h1]
 ·rename_i h1;split
  ·simp[h1]
  ·split<;>simp[h1]
theorem b3B{h:Hs}(hw:Zo (h.Zy (Zn 1))):XQ (h.Zy (Zn 1)) Uf=[]:=by
 unfold XQ
 refine b3Z.2 fun e he=>?_
 obtain⟨a,b⟩:=b9A hw he;rw[a,b];simp[Uf]
theorem b4B{h:Hs}{a b:Int}(hl:∀t,t∈Ye h.events->(a<=Yb h.events t↔b<=Yb h.events t))(bad:Ev->Vl->Vs->Bool):YF h a bad=YF h b bad:=by
 unfold YF;split
 ·refine b1k fun e _=>?_
  unfold VI Cu
  congr 1
  by_cases ht:e.txn∈Ye h.events
  ·simp[ht,hl _ ht]
  ·simp[ht]
 ·rfl
theorem b5B{h:Hs}(hw:Zo (h.Zy (Zn 5)))(bad:Ev->Vl->Vs->Bool):YF (h.Zy (Zn 5)) 2 bad=YF (h.Zy (Zn 5)) 1 bad:=
 b4B (fun t ht=>by rw[b8A hw ht];decide) bad
theorem b6B{h:Hs}(hw:Zo (h.Zy (Zn 1)))(bad:Ev->Vl->Vs->Bool):YF (h.Zy (Zn 1)) 2 bad= -1:=by
 rw[b4B (b:=6) (fun t ht=>by rw[b8A hw ht];decide) bad];exact b6l bad
theorem b7B{h:Hs}:∀e,e∈XS h->1<=e.kind/\e.kind<=5:=by
 intro e hm
 by_cases hw:Zo h
 ·exact(d6w hw ((a6N hw).1 hm).1).kind
 ·rw[Dw hw]at hm;cases hm
theorem b8B{h:Hs}(hw:Zo (h.Zy (Zn 5))):XO (h.Zy (Zn 5))↔
 ((
  Zh (XS (h.Zy (Zn 5))) [1,2,3] [1,2,3]).length=0/\(Zh (XS (h.Zy (Zn 5))) [4,5] [1,2,3,4,5]).length=0∧
  YF (h.Zy (Zn 5)) 1 (VQ (h.Zy (Zn 5)).events)<0/\YF (h.Zy (Zn 5)) 1 (V6 (h.Zy (Zn 5)).events)<0):=by
 have hc:=b3m (l:=XS (h.Zy (Zn 5))) b7B;unfold Yw KN FQ at hc;unfold XO;rw[b5B hw,b5B hw,b0B hw,a1S,a1S];generalize Zh (XS (h.Zy (Zn 5))) [1,2,3] [1,2,3]=a at*;generalize Zh (XS (h.Zy (Zn 5))) [4,5] [1,2,3,4,5]=b at*;generalize Zh (XS (h.Zy (Zn 5))) [1,2,3,4,5] [1,2,3,4,5]=c at*
 by_cases ha:a=[]<;>by_cases hb:b=[]<;>by_cases hcc:c=[]<;>simp_all
theorem b9B{l:List Eg}:Zh (l.filter fun e=>decide (e.kind=1)) [1,2,3,4,5] [1,2,3,4,5]=[]↔Zh l [1] [1]=[]:=by
 suffices H:Zh (l.filter fun e=>decide (e.kind=1)) [1,2,3,4,5] [1,2,3,4,5]≠[]↔Zh l [1] [1]≠[]from
  ⟨fun a=>a9M fun b=>H.2 b a,fun b=>a9M fun a=>H.1 a b⟩
 rw[FR,FR];constructor
 ·rintro⟨e,he,_,hr⟩;obtain⟨h1,h2⟩:=a2E.1 he
  have hk:e.kind=1:=by simpa using h2
  refine⟨e,h1,by simp[YP,hk],b9l (fun x hx _=>?_) hr⟩;obtain⟨g1,g2⟩:=a2E.1 hx
  have hk:x.kind=1:=by simpa using g2
  exact⟨g1,by simp[YP,hk]⟩
 ·rintro⟨e,he,hk,hr⟩
  have SS:e.kind=1:=by simpa[YP]using hk
  refine⟨e,a2E.2 ⟨he,by simp[SS]⟩,by simp[YP,SS],b9l (fun x hx ho=>?_) hr⟩
  have Vq:x.kind=1:=by simpa[YP]using ho
  exact⟨a2E.2 ⟨hx,by simp[Vq]⟩,by simp[YP,Vq]⟩
theorem b0C{h:Hs}(hw:Zo (h.Zy (Zn 1))):XO (h.Zy (Zn 1))↔(Zh (XS (h.Zy (Zn 1))) [1] [1]).length=0:=by
 unfold XO;rw[b6B hw,b6B hw,b2B hw,b9B,a1S];simp[hw]
theorem b1C{h:Hs}{t n:Int}(hn:n<=Yb h.events t)(x:Int):Yb (h.Zy (YV t n)).events x<=Yb h.events x:=by
 show Yb (h.events.map (YV t n)) x<=_
 rw[c7b (Fx t n)];unfold Yb at hn⊢
 cases hb:Wr (Ev.UP x) h.events with
 |none=>simp
 |some e=>
  show(YV t n e).level<=e.level
  unfold YV;split
  ·rename_i he;have hx:e.UP x=true:=(MS hb).2
   have:x=t:=by
    unfold Ev.UP at hx;have:=he.2;simp at hx;omega
   subst this;rw[hb]at hn;exact hn
  ·exact d3t _
theorem b2C{e:Eg}{a b a' b':Int}(ha:a'<=a)(hb:b'<=b)(h:Zt e a' b'=true):Zt e a b=true:=by
 unfold Zt at*;split at h
 ·rename_i h1;rw[if_pos h1]
 ·rename_i h1;rw[if_neg h1];split at h
  ·rename_i h2;rw[if_pos h2];simp at h⊢;omega
  ·rename_i h2;rw[if_neg h2];split at h
   ·rename_i h3;rw[if_pos h3];simp at h⊢;omega
   ·rename_i h3;rw[if_neg h3];simp at h⊢;omega
theorem b3C{h:Hs}(hw:Zo h){t n:Int}(h1:1<=n)(hn:n<=Yb h.events t):Zo (h.Zy (YV t n)):=by
 refine c2b (Fx t n) hw fun e he hk=>?_
 obtain⟨i,hi⟩:=a9B he;obtain⟨g1,g2⟩:=((MT hw hi).1.1.2.2.2.2.1 hk).2;have ht:=b5l hw t;unfold YV;split
 ·exact⟨h1,by show n<=5;omega⟩
 ·exact⟨g1,g2⟩
theorem b4C{h:Hs}(hw:Zo h){t n:Int}(h1:1<=n)(hn:n<=Yb h.events t):∀e,e∈XQ (h.Zy (YV t n)) Zt->e∈XQ h Zt:=by
 intro e he;obtain⟨g1,g2⟩:=a2E.1 he;rw[c3b (Fx t n) hw (b3C hw h1 hn)]at g1;exact a2E.2 ⟨g1,b2C (b1C hn _) (b1C hn _) g2⟩
theorem b5C{α β:Type}(p:β->Bool)(f:α->β)(l:List α):Uv p (l.map f)=Uv (fun x=>p (f x)) l:=by
 unfold Uv;rw[List.findIdx?_map];rfl
theorem b6C{f:Ev->Ev}(hf:LvF f)(e:Ev):X3 (f e)=X3 e:=by
 unfold X3;rw[Ot hf,oe hf,b6Z hf,oa hf]
theorem b7C{h:Hs}(hw:Zo h){t n:Int}(h1:1<=n)(hn:n<=Yb h.events t){bad:Ev->Vl->Vs->Bool}(hb:∀e k v,bad (YV t n e) k v=bad e k v)(hc:YF h 2 bad<0):YF (h.Zy (YV t n)) 2 bad<0:=by
 have Uq:=b3C hw h1 hn;unfold YF at*;rw[if_pos hw]at hc;rw[if_pos Uq]
 show Uv _ (h.events.map (YV t n))<0
 rw[b5C]
 have hle:∀x,x∈h.events->VI (h.Zy (YV t n)).events 2 bad (YV t n x)=true->VI h.events 2 bad x=true:=by
  intro x _ hx;unfold VI KO Cu at*;rw[b6C (Fx t n),PX (Fx t n)]at hx;rw[a3C,decide_eq_true_eq]at hx⊢;obtain⟨⟨a,b⟩,c⟩:=hx;rw[show(h.Zy (YV t n)).events=h.events.map (YV t n)from rfl,c5a (Fx t n)]at a;simp only[hb]at c;exact⟨⟨a,by have:=b1C hn x.txn;omega⟩,c⟩
 rcases b2k hle with g|g<;>omega
theorem b8C{h:Hs}{t n:Int}(h1:1<=n)(hn:n<=Yb h.events t)(hc:XO h):XO (h.Zy (YV t n)):=by
 obtain⟨hw,c1,c2,c3⟩:=hc;have Uq:=b3C hw h1 hn
 have Dq:VQ (h.Zy (YV t n)).events=VQ h.events:=by
  funext e k v
  unfold VQ;rw[show(h.Zy (YV t n)).events=h.events.map (YV t n)from rfl,c5a (Fx t n)]
 have FE:V6 (h.Zy (YV t n)).events=V6 h.events:=by
  funext e k v
  unfold V6;rw[show(h.Zy (YV t n)).events=h.events.map (YV t n)from rfl,c6a (Fx t n)]
 refine⟨Uq,b7C hw h1 hn (fun e k v=>rfl) (by rw[Dq];exact c1),b7C hw h1 hn (fun e k v=>by unfold V6;rw[PX (Fx t n),Cf (Fx t n)]) (by rw[FE];exact c2),a9M fun g=>?_⟩
 exact b1m (b4C hw h1 hn) (fun k hk=>hk) (fun k hk=>hk) g c3
theorem b4R{es:List Eg}{q:Nat}{y x:Eg}(hy:es[q]? =some y):(x∈es.take (q+1))↔(x∈es.take q\/x=y):=by
 rw[show es.take (q+1)=es.take q++[y] by rw[a3I,hy];rfl,a9E,a1B]
end Go.Rt
end
