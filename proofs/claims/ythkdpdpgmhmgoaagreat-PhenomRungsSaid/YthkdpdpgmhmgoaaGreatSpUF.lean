/- Contracts of functions of the program, and what they lean on. Conditions: those of each theorem. -/
import Derived.Test.YthkdpdpgmhmgoaaGreatSpUD
import Derived.Test.YthkdpdpgmhmgoaaGreatSpUE
import Derived.Test.YthkdpdpgmhmgoaaGreatSpUC
import Derived.Test.YthkdpdpgmhmgoaaGreatRows

set_option linter.unusedVariables false
set_option linter.unusedSimpArgs false
set_option maxHeartbeats 64000000
set_option maxRecDepth 100000
open Bool renaming eq_false_iff->d5s,true_and->c6T,and_eq_true->a4C,eq_iff_iff->b3S
open Classical renaming byContradiction->a9M
open Int renaming eq_ofNat_of_zero_le->c7V
open List renaming length_eq_zero_iff->a9U,mem_of_getElem?->a8y,getElem?_eq_some_iff->a7y,getElem?_of_mem->a9B,getElem?_take->a5N,length_take->a7S,length_pos_iff->a6I,mem_append->a1E,mem_singleton->a2z,take_of_length_le->a2B,take_length->a7I,getElem?_map->a0C,getElem?_tail->c7J,length_map->a6S,take_add_one->a1J,flatMap_append->c4F,foldl_append->a3U,mem_flatMap->a2N,length_append->a7J,mem_of_mem_take->b4j,length_nil->c4n,foldl_nil->b1T,take->a7U,length_filter_le->b9b,all_eq_true->a0E,mem_filter->a0F,any_eq_true->b4o,mem_map->a3E,any_cons->c2H,mem_cons->a2E,not_mem_nil->b8w,map_take->c5V,mem_cons_self->a8C,mem_cons_of_mem->a2C,filter_eq_nil_iff->b0T,eq_nil_iff_forall_not_mem->c8L,ne_nil_of_mem->b9Q,nodup_cons->b0q,idxOf_cons->d2C,length_singleton->c9E,mem_append_left->a6O,map_append->a6M,nodup_append->b5m,tail_append_of_ne_nil->c6S,getElem?_append_left->a1N,length_cons->a3O,getElem_inj->d7v,contains_cons->c6F,map_cons->a0G,contains_iff_mem->a0N,all_cons->b4x,map_congr_left->b5s,map_nil->a8U,findIdx?_cons->d6p,drop->c3R
open Nat renaming mul_le_mul_right->a5E,lt_or_ge->a6U,le_refl->a8F,eq_zero_or_pos->b5j,beq->d5d,eq_of_beq_eq_true->c2C,lt_of_le_of_lt->c7L
open Option renaming bind_eq_some_iff->b2q
open Option.some renaming injEq->a5y

section
namespace Go.Rt
open Go.Vm
theorem c6C(v:Vl):ZU prog true OA [v.av] [] (vb v.right) []:=by
 refine YD jw (by simp) (by decide) rfl ?_;simp-dsimp[a2h,Vl.right]
 grind
theorem c7C(t:Tb):ZU prog true OG [YS t] [] (vb (Yp (WQ t))) []:=by
 refine YD jv (by simp) (by decide) rfl ?_;simp-dsimp[a9c,YS,Wr,Tz,WQ, -a9U];omega
theorem c8C(t:Tb)(r:List Vl):ZU prog true HI [YS t, .iv (r9 r)] [] (vb (Yp (Fits t r))) []:=by
 refine YD ju (by simp) (by decide) rfl ?_;simp-dsimp[a8f,YS];refine Zu (c7C t) (by simp[YS]) rfl ?_;simp-dsimp[Wr,r9, -a9U];refine⟨fun h1=>⟨fun h3 h=>by have:=h.2.1;omega,fun h3=>?_⟩,fun h h'=>h h'.1⟩
 refine YZ [] [] r.length (fun i=>⟨[(6,vi i),(1, .iv (.Z6 3 (r.map Vl.cells))),(2, .ptr 2 0)],[(2, .box [.iv (.Z6 1 (rq t))])]⟩)
  (fun i=>ZH i (e5c t r)) ?_ ?_ ?_
 ·simp
 ·simp
 ·intro i hi hq;have h2:=h1.2;simp-dsimp[KV];refine⟨fun ZV=>?_,fun X3=>?_⟩
  ·obtain⟨v,hv⟩:=Zw ZV;obtain⟨c,hc⟩:∃c,t[i]? =some c:=Zw (by omega);simp-dsimp[hv,hc];refine Zu (c6C v) (by simp) rfl ?_;simp-dsimp[hv,hc];exact⟨fun e2=>⟨fun e=>e6c hv hc fun h=>e h.1,fun e=>⟨ZV,Zo (by omega),hq.succ (e7c hv hc ⟨e,e2⟩)⟩⟩,fun e2=>e6c hv hc (by simp[e2])⟩
  ·exact⟨h1,by omega,fun j hj=>hq j (by omega)⟩
theorem c9C(t:Tb)(i:Int)(v:Vl):ZU prog true Ox [YS t,vi i,v.av] [] (vb (Yp (JB t i v))) []:=by
 refine YD jt (by simp) (by decide) rfl ?_;simp-dsimp[c5N,YS];refine Zu (c6C v) (by simp) rfl ?_;simp-dsimp[Wr];refine⟨fun h1=>⟨fun h2=>?_,fun h2 h=>by have:=h.2.1;omega⟩,fun h1 h=>by have:=h.1;omega⟩;obtain⟨k,rfl⟩:=c7V h1;obtain⟨c,hc⟩:∃c,t[k]? =some c:=Zw (by omega)
 refine⟨fun h3=>⟨h1,?_⟩,fun h3 h=>by have:=h.2.2.2;rw[h3]at this;cases this⟩
 simp-dsimp[hc,Tz,b0R hc,h3]
theorem Pd.NZ(t:Tb)(p:Pd):p.VH t↔TV t p/\Pd.VS t p.l:=by cases p;rw[Pd.VH];rfl
theorem Pd.Ur(t:Tb):∀l:List Pd,Pd.VS t l↔∀p,p∈l->p.VH t
 | []=>by simp[Pd.VS]
 |p::r=>by simp[Pd.VS,Pd.Ur t r]
theorem c0D{t:Tb}{p:Pd}{i:Nat}{q:Pd}(h:p.l[i]? =some q)(hq:¬q.VH t):¬p.VH t:=fun g=>
 hq ((Pd.Ur t p.l).1 ((Pd.NZ t p).1 g).2 q (a8y h))
theorem c1D(t:Tb){p:Pd}(h:p.Ok):ZU prog true LI [YS t,p.av] [] (vb (Yp (p.VH t))) []:=by
 induction h with
 |mk p hl _ _ hq ih=>
 refine YD jr (by simp) (by decide) rfl ?_;simp-dsimp[c2N,Pd.Z4,YS]
 refine YZ [] [] p.l.length (fun i=>⟨[(5,vi i),(2, .ptr 2 0),(3, .ptr 3 0)],[(3,p.box),(2, .box [.iv (Wr t)])]⟩)
  (fun i=>ZH i fun j=>∀q,p.l[j]? =some q->q.VH t) ?_ ?_ ?_
 ·simp[Pd.box]
 ·simp
 ·intro i hi hqq
  have Sb:((p.l.length:Int)==0)=Yp (p.l.length=0):=by rw[Tz,beq_iff_eq];omega
  have oI:((p.l.length:Int)==1)=Yp (p.l.length=1):=by rw[Tz,beq_iff_eq];omega
  have oH:(decide (0<(p.l.length:Int)))=Yp (0<p.l.length):=by rw[Tz,decide_eq_true_eq];omega
  by_cases ZV:i<p.l.length
  ·obtain⟨q,Wa⟩:=Zw ZV;have hw:IntKind.i64.wrap ((i:Int)+1)=(i:Int)+1:=Zo (by omega);have hqe:=(a7y.1 Wa).2;simp-dsimp[Vf,Pd.box,ZV,hqe,Pd.Z8 q];refine Zu (ih q (a8y Wa)) (by simp[Pd.Z4,YS]) (by simp[Pd.Z4,YS]) ?_;simp-dsimp[hw]
   refine⟨fun e=>c0D Wa e,fun e=>hqq.succ fun q' h'=>by rw[Wa]at h';cases h';exact e⟩
  ·have e0:p.VH t↔TV t p:=by
    rw[Pd.NZ,Pd.Ur];refine⟨fun h=>h.1,fun h=>⟨h,fun q hq=>?_⟩⟩;obtain⟨j,hj⟩:=a9B hq;exact hqq j (by have:=(a7y.1 hj).1;omega) q hj
   have NR:(p.op=1\/p.op=2)\/(p.op=3\/p.op=4\/p.op=5\/p.op=6\/p.op=7\/p.op=8)\/p.op=9\/p.op=10\/(p.op=11\/p.op=12)\/(p.op<1\/12<p.op):=by omega
   rcases NR with h|h|h|h|h|h
   ·have e:TV t p↔p.l.length=0:=by unfold TV;rw[if_pos h]
    rcases h with h|h<;>simp-dsimp[Vf,Pd.box,ZV,h,Sb,e,e0]
   ·have e:TV t p↔p.l.length=0/\JB t p.col p.v:=by
     unfold TV;rw[if_neg (by omega),if_pos (by omega)]
    rcases h with h|h|h|h|h|h
    all_goals
     simp-dsimp[Vf,Pd.box,ZV,h,Sb,e,e0];refine⟨fun h0=>?_,fun h0=>?_⟩
     ·refine Zu (c9C t p.col p.v) (by simp[YS]) (by simp[YS]) ?_;simp-dsimp[h0,e,e0]
     ·simp-dsimp[h0,e,e0]
   ·have e:TV t p↔p.l.length=0/\JB t p.col p.v/\JB t p.col p.w:=by
     unfold TV;rw[if_neg (by omega),if_neg (by omega),if_pos (by omega)]
    simp-dsimp[Vf,Pd.box,ZV,h,Sb,e,e0];refine⟨fun h0=>?_,fun h0=>?_⟩
    ·refine Zu (c9C t p.col p.v) (by simp[YS]) (by simp[YS]) ?_;simp-dsimp;refine⟨fun h1=>?_,fun h1=>?_⟩
     ·refine Zu (c9C t p.col p.w) (by simp[YS]) (by simp[YS]) ?_;simp-dsimp[h0,h1,e,e0]
     ·simp-dsimp[h0,h1,e,e0]
    ·simp-dsimp[h0,e,e0]
   ·have e:TV t p↔p.l.length=1:=by
     unfold TV;rw[if_neg (by omega),if_neg (by omega),if_neg (by omega),if_pos h]
    simp-dsimp[Vf,Pd.box,ZV,h,oI,e,e0]
   ·have e:TV t p↔0<p.l.length:=by
     unfold TV;rw[if_neg (by omega),if_neg (by omega),if_neg (by omega),if_neg (by omega),if_pos h]
    rcases h with h|h<;>simp-dsimp[Vf,Pd.box,ZV,h,oH,e,e0,Tz]
   ·have e:¬TV t p:=by
     unfold TV;rw[if_neg (by omega),if_neg (by omega),if_neg (by omega),if_neg (by omega),if_neg (by omega)];exact id
    have ne:∀k:Int,1<=k->k<=12->(p.op==k)=false:=fun k h1 h2=>by rw[beq_eq_false_iff_ne];omega
    simp-dsimp[Vf,Pd.box,ZV,e,e0,ne]
theorem c2D(t:Tb){p:Pd}(h:p.Ok):ZU prog true HG [YS t,p.av] [] (vb (Yp (P6 t p))) []:=by
 refine YD jq (by simp) (by decide) rfl ?_;simp-dsimp[a9f,Pd.Z4,YS];refine Zu (c7C t) (by simp[YS]) (by simp[YS]) ?_;simp-dsimp;refine⟨fun h1=>?_,fun h1 h=>h1 h.1⟩;refine Zu (b2Q h) (by simp[Pd.Z4]) (by simp[Pd.Z4]) ?_;simp-dsimp;refine⟨fun h2=>?_,fun h2 h=>by have:=h.2.1;omega⟩
 refine Zu (c1D t h) (by simp[Pd.Z4,YS]) (by simp[Pd.Z4,YS]) ?_;simp-dsimp[Tz,P6,h1,h2]
theorem c3D{h:Hs}(ht:h.WS)(table:Int)(k:Vl):ZU prog true OB [h.av,vi table,k.av] [] (vb (Yp (SE h table k))) []:=by
 refine YD jo (by simp) (by decide) rfl ?_;simp-dsimp[c9M,Hs.av];refine⟨fun h1=>⟨fun h2=>?_,fun h2=>?_⟩,fun h1 h=>absurd h.1 (by omega)⟩
 ·rintro⟨_,t,h3,_⟩;have:=(a7y.1 h3).1;omega
 ·obtain⟨n,rfl⟩:=c7V h1;obtain⟨t,VW⟩:∃t,h.tables[n]? =some t:=Zw (by omega);have hT:=ht t (a8y VW);obtain⟨c,hc⟩:∃c,t[0]? =some c:=Zw hT.1
  have hK:SE h n k↔k.right=true/\k.text=c:=by
   unfold SE;constructor
   ·rintro⟨_,t',h3,h4,h5⟩;rw[show((n:Int)).toNat=n from rfl,VW]at h3;cases h3;rw[hc]at h5;cases h5;exact⟨h4,rfl⟩
   ·rintro⟨h4,h5⟩;exact⟨h1,t,by simpa using VW,h4,by rw[hc,h5]⟩
  refine Zu (c6C k) (by simp) (by simp) ?_;simp-dsimp[VW,hc,Wr,Tz,hK]
  grind
theorem c4D{h:Hs}(ZY:h.Ok)(a:Nat)(table:Int)(k:Vl)(v:Vs):ZU prog true LP [h.av,vi a,vi table,k.av,v.av] [] (vb (Yp (LA (h.events.take a) table k v))) []:=by
 refine YD jn (by simp) (by decide) rfl ?_;simp-dsimp[c0N,Hs.av];refine Zu (pU ZY a v.txn table k) (by simp[Hs.av]) (by simp[Hs.av]) ?_;simp-dsimp[Tz,LA]
 grind
theorem c5D{h:Hs}(ZY:h.Ok){a:Nat}{e:Ev}(ha:h.events[a]? =some e):ZU prog true HU [h.av,vi a] [] (vb (Yp (GR (h.events.take a) e))) []:=by
 refine YD jm (by simp) (by decide) rfl ?_;have hlen:=(a7y.1 ha).1;have XS:=ZY.events;simp-dsimp[c5M,Hs.av,ha];refine⟨fun h1=>⟨fun h2=>⟨fun h3 g=>absurd g.2.2.1 (by omega),fun h3=>?_⟩,fun h2 g=>absurd g.2.1 (by omega)⟩,fun h1 g=>absurd g.1 (by omega)⟩
 refine YZ [] [8] a (fun i=>⟨[(7,vi i),(6,vb (Yp (M6 (h.events.take i) e.txn))),(1,vi a),(5, .ptr 5 0),(2, .ptr 2 0)],
  [(5, .box (e.cells.map .iv)),(2, .box [.iv (.Z6 1 (Zd h.tables)), .iv (.Z6 22 (Zi h.events)), .iv (.Z6 5 (Zh h.order))])]⟩)
  (fun i=>OZ (h.events.take i) e.txn) ?_ ?_ ?_
 ·simp-dsimp
 ·simp
 ·intro i hi hq
  by_cases ZV:i<a
  ·obtain⟨x,hx⟩:∃x,h.events[i]? =some x:=Zw (by omega);have hw:=Zo (n:=(i:Int)+1) (by omega);simp-dsimp[PD,ZV,hx,N5 hx,d5Q,d6Q,d8P];rw[hw]
   have hN:x.txn=e.txn->(x.kind=5\/x.kind=6)->¬GR (h.events.take a) e:=fun g1 g2 g=>by
    have:=g.2.2.2.1 x (a8y (by rw[a5N,if_pos ZV];exact hx)) g1;omega
   grind
  ·have hia:i=a:=by omega
   subst hia;simp-dsimp[PD,d8P,d9P];unfold GR
   grind
theorem c6D{h:Hs}(ZY:h.Ok)(ht:h.WS){a:Nat}{e:Ev}(ha:h.events[a]? =some e):ZU prog true HS [h.av,vi a] [] (vb (Yp (Ig h (h.events.take a) e))) []:=by
 refine YD jl (by simp) (by decide) rfl ?_;have hlen:=(a7y.1 ha).1;have XS:=ZY.events;simp-dsimp[c7M,Hs.av,ha];refine Zu (c3D ht e.table e.key) (by simp[Hs.av]) (by simp[Hs.av]) ?_;simp-dsimp;refine⟨fun h1=>?_,fun h1 g=>h1 g.1⟩
 have hw:=Zo (n:=(Yo (h.events.take a) e.txn e.table e.key:Int)+1) (by have:=d7P (h.events.take a) e.txn e.table e.key;rw[a7S]at this;omega)
 obtain⟨h0,t,OO,hr,hc⟩:=id h1;constructor
 all_goals
  refine Zu (pU ZY a e.txn e.table e.key) (by simp[Hs.av]) (by simp[Hs.av]) ?_;simp-dsimp[hw];refine⟨fun g1 g=>g1 g.2.1,fun g1=>⟨h0,?_⟩⟩;simp-dsimp[OO];refine Zu (c8C t e.row) (by simp[YS,r9,YM]) (by simp[YS]) ?_
  have JR:Ig h (h.events.take a) e↔e.row=[]\/(Fits t e.row/\e.row[0]? =some e.key):=by
   unfold Ig;constructor
   ·rintro⟨_,_,g|⟨t',g2,g3,g4⟩⟩
    ·exact .inl g
    ·rw[OO]at g2;cases g2;exact .inr ⟨g3,g4⟩
   ·rintro(g|⟨g3,g4⟩)
    ·exact⟨h1,g1, .inl g⟩
    ·exact⟨h1,g1, .inr ⟨t,OO,g3,g4⟩⟩
  by_cases Zf:e.row=[]
  ·simp-dsimp[JR,Zf]
  ·obtain⟨v,hv⟩:∃v,e.row[0]? =some v:=Zw (a6I.2 Zf);simp-dsimp[Zf];refine⟨fun g3=>?_,fun g3 g=>?_⟩
   ·simp-dsimp[hv,JR,Zf,g3,Tz,Vl.eq_iff]
    try grind
   ·exact g3 ((JR.1 g).resolve_left Zf).1
theorem c7D{h:Hs}(ZY:h.Ok)(ht:h.WS){a:Nat}{e:Ev}(ha:h.events[a]? =some e):ZU prog true HT [h.av,vi a] [] (vb (Yp (JD h (h.events.take a) e))) []:=by
 refine YD jj (by simp) (by decide) rfl ?_;have hlen:=(a7y.1 ha).1;have XS:=ZY.events;simp-dsimp[c6M,Hs.av,ha];refine Zu (c3D ht e.table e.key) (by simp[Hs.av]) (by simp[Hs.av]) ?_;simp-dsimp;refine⟨fun h1 g=>h1 g.1,fun h1=>?_⟩;refine Zu (pU ZY a e.txn e.table e.key) (by simp[Hs.av]) (by simp[Hs.av]) ?_;simp-dsimp
 have hRO:JD h (h.events.take a) e↔if 0<Yo (h.events.take a) e.txn e.table e.key then e.ZX.txn=e.txn/\e.ZX.n=Yo (h.events.take a) e.txn e.table e.key
  else(e.ZX.txn=0/\e.ZX.n=0)\/LA (h.events.take a) e.table e.key e.ZX:=by
  unfold JD
  split<;>simp[h1,Vs.eq_iff]
 refine⟨fun h2=>?_,fun h2=>?_⟩
 ·rw[Tz,hRO,if_pos h2];simp
 ·rw[if_neg (by omega)]at hRO;constructor
  ·intro h3;refine Zu (c4D ZY a e.table e.key e.ZX) (by simp[Hs.av]) (by simp[Hs.av]) ?_;simp-dsimp[d8P,hRO]
   grind
  ·simp[hRO]
   try grind
theorem c8D{h:Hs}(ZY:h.Ok)(ht:h.WS){a:Nat}{e:Ev}(ha:h.events[a]? =some e):ZU prog true HR [h.av,vi a] [] (vb (Yp (d6v h (h.events.take a) e))) []:=by
 refine YD ji (by simp) (by decide) rfl ?_;have hlen:=(a7y.1 ha).1;have XS:=ZY.events;have XR:=ZY.ev e (a8y ha);simp-dsimp[c8M,Hs.av,ha];refine⟨fun h0=>⟨fun h1=>⟨h0,?_⟩,fun h1=>?_⟩,fun h0 g=>absurd g.1.1 (by omega)⟩
 ·obtain⟨t,OO⟩:∃t,h.tables[e.table.toNat]? =some t:=Zw (by omega);simp-dsimp[OO];refine Zu (c2D t XR.pred) (by simp[YS,Pd.av]) (by simp[YS,Pd.av]) ?_;simp-dsimp;refine⟨fun h2 g=>?_,fun h2=>?_⟩
  ·obtain⟨⟨_,t',g1,g2⟩,_⟩:=g;rw[OO]at g1;cases g1;exact h2 g2
  ·refine YZ [] [7] e.refs.length (fun i=>⟨[(6,vi i),(1,vi a),(2, .ptr 2 0),(5, .ptr 5 0)],
    [(5, .box (e.cells.map .iv)),(2, .box [.iv (.Z6 1 (Zd h.tables)), .iv (.Z6 22 (Zi h.events)), .iv (.Z6 5 (Zh h.order))])]⟩)
    (fun i=>ZH i (Np h (h.events.take a) e)) ?_ ?_ ?_
   ·simp-dsimp
   ·simp
   ·intro i hi hq;simp-dsimp[KU];refine⟨fun ZV=>?_,fun X3=>?_⟩
    ·obtain⟨q,Wa⟩:=Zw ZV;have hre:=XR.refs;have hw:=Zo (n:=(i:Int)+1) (by omega);have UY:=Zo (n:=(i:Int)-1) (by omega)
     have Y6:¬Np h (h.events.take a) e i->¬d6v h (h.events.take a) e:=fun g1 g=>g1 (g.2.1 i ZV)
     have VE:Np h (h.events.take a) e i↔SE h e.table q.key/\LA (h.events.take a) e.table q.key q.ZX/\(∀p,0<i->e.refs[i-1]? =some p->p.key.cmp q.key<0):=by
      unfold Np;rw[Wa];exact⟨fun g=>g q rfl,fun g r hr=>by cases hr;exact g⟩
     simp-dsimp[Wa,Rf.Z8 q];refine Zu (c3D ht e.table q.key) (by simp[Hs.av]) (by simp[Hs.av]) ?_;simp-dsimp;refine⟨fun k1=>?_,fun k1=>Y6 fun g=>k1 (VE.1 g).1⟩;refine Zu (c4D ZY a e.table q.key q.ZX) (by simp[Hs.av]) (by simp[Hs.av]) ?_;simp-dsimp
     by_cases k2:LA (h.events.take a) e.table q.key q.ZX
     ·by_cases GV:0<i
      ·obtain⟨p,hp⟩:∃p,e.refs[i-1]? =some p:=Zw (by omega)
       have e1:((i:Int)-1).toNat=i-1:=by omega
       have e2:(0:Int)<=(i:Int)-1:=by omega
       simp-dsimp[k2,GV,UY,e1,e2,hp,Rf.Z8 p];refine⟨⟨by omega,Zu (b0v p.key q.key (XR.f2P p (a8y hp))) (by simp) (by simp) ?_⟩,fun g=>absurd g (by omega)⟩;simp-dsimp[hw];refine⟨fun k3=>Y6 fun g=>absurd ((VE.1 g).2.2 p GV hp) (by omega),fun k3=>⟨ZV,hq.succ (VE.2 ⟨k1,k2,fun p' _ Fj=>by rw[hp]at Fj;cases Fj;exact k3⟩)⟩⟩
      ·simp-dsimp[k2,GV,hw]
       exact fun _=>⟨ZV,hq.succ (VE.2 ⟨k1,k2,fun p h=>absurd h GV⟩)⟩
     ·simp-dsimp[k2]
      exact Y6 fun g=>k2 (VE.1 g).2.1
    ·have Zt:ZH e.refs.length (Np h (h.events.take a) e):=fun j hj=>hq j (by omega)
     refine YZ [] [10,11] a (fun i=>⟨[(9,vi i),(1,vi a),(2, .ptr 2 0),(5, .ptr 5 0)],
      [(5, .box (e.cells.map .iv)),(2, .box [.iv (.Z6 1 (Zd h.tables)), .iv (.Z6 22 (Zi h.events)), .iv (.Z6 5 (Zh h.order))])]⟩)
      (fun i=>∀x,x∈h.events.take i->d5v (h.events.take a) e x) ?_ ?_ ?_
     ·simp-dsimp
     ·simp
     ·intro j hj hs;simp-dsimp[KT];refine⟨fun Xk=>?_,fun P4=>?_⟩
      ·obtain⟨x,hx⟩:∃x,h.events[j]? =some x:=Zw (by omega);have Nl:=Zo (n:=(j:Int)+1) (by omega)
       have Zy:d5v (h.events.take a) e x->∀y,y∈h.events.take (j+1)->d5v (h.events.take a) e y:=fun g y hy=>by
        rw[N5 hx]at hy
        rcases a1E.1 hy with hy|hy
        ·exact hs y hy
        ·simp only[a2z]at hy;subst hy;exact g
       by_cases c1:x.kind=3
       ·by_cases c2:x.txn=e.txn
        ·by_cases c3:x.table=e.table
         ·simp-dsimp[hx,c1,c2,c3];refine⟨⟨?_,?_⟩,?_,?_,?_⟩
          all_goals
           refine Zu (pU ZY a e.txn e.table x.key) (by simp[Hs.av]) (by simp[Hs.av]) ?_;simp-dsimp
          all_goals
           refine YZ [] [] e.refs.length (fun k=>⟨[(13,vi k),(12,vb (Yp (IG (e.refs.take k) x.key ⟨e.txn,Yo (h.events.take a) e.txn e.table x.key⟩))),(9,vi j),(1,vi a),(2, .ptr 2 0),(5, .ptr 5 0),(10, .ptr 10 0),(11, .ptr 11 0)],
            [(11, .box [.iv (ci e.txn), .iv (ci (Yo (h.events.take a) e.txn e.table x.key))]),(10, .box (x.cells.map .iv)),(5, .box (e.cells.map .iv)),(2, .box [.iv (.Z6 1 (Zd h.tables)), .iv (.Z6 22 (Zi h.events)), .iv (.Z6 5 (Zh h.order))])]⟩)
            (fun _=>True) ?_ trivial ?_
           ·simp-dsimp
           ·intro k hk _;simp-dsimp[KS];refine⟨fun SN=>?_,fun JA=>?_⟩
            ·obtain⟨q,rn⟩:=Zw SN;have qG:=XR.refs;have Ux:=Zo (n:=(k:Int)+1) (by omega);simp-dsimp[rn,Rf.Z8 q,N5 rn,d9v,Tz,Ux]
             grind
            ·rw[a2B JA];simp-dsimp[Nl];refine⟨fun g g2=>?_,fun g=>⟨Xk,Zy fun _ _ _=>?_⟩⟩
             ·exact g (by obtain⟨r,g3,g4,g5⟩:=g2.2.2 x (a8y (by rw[a5N,if_pos Xk];exact hx)) c1 c2 c3;exact⟨r,g3,g4,g5⟩)
             ·obtain⟨r,g3,g4,g5⟩:=g;exact⟨r,g3,g4,g5⟩
         ·simp-dsimp[hx,c1,c2,c3,Nl];exact⟨Xk,Zy fun _ _ g=>absurd g c3⟩
        ·simp-dsimp[hx,c1,c2,Nl];exact⟨Xk,Zy fun _ g=>absurd g c2⟩
       ·simp-dsimp[hx,c1,Nl];exact⟨Xk,Zy fun g=>absurd g c1⟩
      ·have hja:j=a:=by omega
       subst hja;exact⟨⟨h0,t,OO,h2⟩,Zt,hs⟩
 ·rintro⟨⟨_,t,g,_⟩,_⟩;have:=(a7y.1 g).1;omega
theorem c9D{h:Hs}(ZY:h.Ok)(ht:h.WS){a:Nat}{e:Ev}(ha:h.events[a]? =some e):ZU prog true H5 [h.av,vi a] [] (vb (Yp (Nk h (h.events.take a) e))) []:=by
 refine YD jh (by simp) (by decide) rfl ?_;simp-dsimp[c2M,Hs.av];refine Zu (c5D ZY ha) (by simp[Hs.av]) (by simp[Hs.av]) ?_;simp-dsimp
 by_cases h1:GR (h.events.take a) e
 ·by_cases k2:e.kind=2
  ·simp-dsimp[ha,h1,k2];refine Zu (c7D ZY ht ha) (by simp[Hs.av]) (by simp[Hs.av]) ?_;simp-dsimp[Nk,h1,k2]
  ·by_cases k3:e.kind=3
   ·simp-dsimp[ha,h1,k3];refine Zu (c6D ZY ht ha) (by simp[Hs.av]) (by simp[Hs.av]) ?_;simp-dsimp[Nk,h1,k3]
   ·by_cases k4:e.kind=4
    ·simp-dsimp[ha,h1,k4];refine Zu (c8D ZY ht ha) (by simp[Hs.av]) (by simp[Hs.av]) ?_;simp-dsimp[Nk,h1,k4]
    ·simp-dsimp[ha,h1,k2,k3,k4,Nk]
 ·simp-dsimp[ha,h1,Nk]
def rm(h:Hs)(e:Ev)(i:Nat):Prop:=ZH i fun j=>∀o,h.order[j]? =some o->¬(o.Tk e.table e.key/\e.txn∈o.ZW)
theorem c0E{h:Hs}(ZY:h.Ok){a:Nat}{e:Ev}(ha:h.events[a]? =some e):ZU prog true H4 [h.av,vi a] [] (vb (Yp (DZ h e))) []:=by
 refine YD jg (by simp) (by decide) rfl ?_;simp-dsimp[c3M,Hs.av,ha];refine Zu (b2P ZY e.txn) (by simp[Hs.av]) (by simp[Hs.av]) ?_;simp-dsimp
 by_cases k3:e.kind=3
 ·by_cases k5:W6 h.events e.txn=5
  ·simp-dsimp[k3,k5]
   refine YZ [] [8] h.order.length (fun i=>⟨[(7,vi i),(2, .ptr 2 0),(5, .ptr 5 0)],
    [(5, .box (e.cells.map .iv)),(2, .box [.iv (.Z6 1 (Zd h.tables)), .iv (.Z6 22 (Zi h.events)), .iv (.Z6 5 (Zh h.order))])]⟩)
    (fun i=>rm h e i) ?_ ?_ ?_
   ·simp-dsimp
   ·exact Tn
   ·intro i hi hq;have P8:=ZY.order;simp-dsimp[KR];refine⟨fun ZV=>?_,fun X3=>?_⟩
    ·obtain⟨o,ho⟩:=Zw ZV;have hw:=Zo (n:=(i:Int)+1) (by omega)
     have Y6:¬(o.Tk e.table e.key/\e.txn∈o.ZW)->rm h e (i+1):=fun g=>ZH.succ hq fun o' XQ=>by rw[ho]at XQ;cases XQ;exact g
     by_cases c:o.Tk e.table e.key
     ·obtain⟨c1,c2⟩:=id c;have f3P:=ZY.ZW o (a8y ho);simp-dsimp[ho,Ins.Z8 o,c1,c2]
      refine YZ [] [] o.ZW.length (fun k=>⟨[(9,vi k),(7,vi i),(2, .ptr 2 0),(5, .ptr 5 0),(8, .ptr 8 0)],
       [(8, .box [.iv (ci o.table), .iv (cb o.key.text), .iv (ci o.key.n), .iv (.v (.string o.key.s)), .iv (.Z6 1 (Yj o.ZW))]),(5, .box (e.cells.map .iv)),(2, .box [.iv (.Z6 1 (Zd h.tables)), .iv (.Z6 22 (Zi h.events)), .iv (.Z6 5 (Zh h.order))])]⟩)
       (fun k=>e.txn∉o.ZW.take k) ?_ ?_ ?_
      ·simp-dsimp[c1,c2]
      ·simp
      ·intro k hk hn;simp-dsimp[KQ];refine⟨fun SN=>?_,fun JA=>?_⟩
       ·obtain⟨x,hx⟩:=Zw SN;have Ux:=Zo (n:=(k:Int)+1) (by omega);simp-dsimp[hx,Ux,N5 hx];refine⟨fun g _ _=>⟨o,a8y ho,c,by rw[<-g];exact a8y hx⟩,fun g=>⟨SN,hn,fun g2=>g g2.symm⟩⟩
       ·rw[a2B JA]at hn;exact⟨ZV,hw,Y6 fun g=>hn g.2⟩
     ·have c':¬(o.table=e.table/\o.key.text=e.key.text/\o.key.n=e.key.n/\o.key.s=e.key.s):=fun g=>c ⟨g.1,Vl.eq_iff.2 g.2⟩
      have hU:=Y6 fun g=>c g.1
      simp-dsimp[ho,Ins.Z8 o,hw]
      have hC:∀{p:Prop},(o.table=e.table)->(o.key.text=e.key.text)->(o.key.n=e.key.n)->(o.key.s=e.key.s)->p:=fun a1 a2 a3 a4=>(c' ⟨a1,a2,a3,a4⟩).elim
      refine⟨fun g1=>⟨fun _=>⟨ZV,hU⟩,fun g2 g3 g4=>hC g1 g2 g3 g4⟩,fun _=>⟨ZV,hU⟩⟩
    ·intro g;obtain⟨o,g1,g2,g3⟩:=g k3 k5;obtain⟨j,hj⟩:=a9B g1;exact hq j (by have:=(a7y.1 hj).1;omega) o hj ⟨g2,g3⟩
  ·simp-dsimp[k3,k5,DZ]
 ·simp-dsimp[k3,DZ]
theorem c1E{h:Hs}(ZY:h.Ok){a:Nat}{o:Ins}(ha:h.order[a]? =some o):ZU prog true H3 [h.av,vi a] [] (vb (Yp (GQ h a o))) []:=by
 refine YD je (by simp) (by decide) rfl ?_;have hlen:=(a7y.1 ha).1;have P8:=ZY.order;have f3P:=ZY.ZW o (a8y ha);simp-dsimp[c4M,Hs.av,ha,Ins.Z8 o]
 refine YZ [] [] a (fun i=>⟨[(6,vi i),(1,vi a),(2, .ptr 2 0),(5, .ptr 5 0)],
  [(5, .box [.iv (ci o.table), .iv (cb o.key.text), .iv (ci o.key.n), .iv (.v (.string o.key.s)), .iv (.Z6 1 (Yj o.ZW))]),(2, .box [.iv (.Z6 1 (Zd h.tables)), .iv (.Z6 22 (Zi h.events)), .iv (.Z6 5 (Zh h.order))])]⟩)
  (fun i=>∀x,x∈h.order.take i->¬x.Tk o.table o.key) ?_ ?_ ?_
 ·simp-dsimp
 ·simp
 ·intro i hi hq;simp-dsimp[Gm];refine⟨fun ZV=>?_,fun X3=>?_⟩
  ·obtain⟨x,hx⟩:∃x,h.order[i]? =some x:=Zw (by omega);have hw:=Zo (n:=(i:Int)+1) (by omega);simp-dsimp[hx,Ins.Z8 x,hw]
   have Y6:x.Tk o.table o.key->¬GQ h a o:=fun g g2=>g2.1 x (a8y (by rw[a5N,if_pos ZV];exact hx)) g
   have f1l:¬x.Tk o.table o.key->∀y,y∈h.order.take (i+1)->¬y.Tk o.table o.key:=fun g y hy=>by
    rw[N5 hx]at hy
    rcases a1E.1 hy with hy|hy
    ·exact hq y hy
    ·simp only[a2z]at hy;subst hy;exact g
   refine⟨fun g1=>⟨fun g2 g3 g4=>Y6 ⟨g1,Vl.eq_iff.2 ⟨g2,g3,g4⟩⟩,fun g2=>⟨ZV,f1l fun g=>?_⟩⟩,fun g1=>⟨ZV,f1l fun g=>g1 g.1⟩⟩;have g3:=Vl.eq_iff.1 g.2;exact g2 g3.1 g3.2.1 g3.2.2
  ·have hia:i=a:=by omega
   subst hia
   refine YZ [] [] o.ZW.length (fun k=>⟨[(7,vi k),(2, .ptr 2 0),(5, .ptr 5 0)],
    [(5, .box [.iv (ci o.table), .iv (cb o.key.text), .iv (ci o.key.n), .iv (.v (.string o.key.s)), .iv (.Z6 1 (Yj o.ZW))]),(2, .box [.iv (.Z6 1 (Zd h.tables)), .iv (.Z6 22 (Zi h.events)), .iv (.Z6 5 (Zh h.order))])]⟩)
    (fun k=>ZH k fun i=>∀t,o.ZW[i]? =some t->W6 h.events t=5/\Yo h.events t o.table o.key≠0/\t∉o.ZW.take i) ?_ ?_ ?_
   ·simp-dsimp
   ·exact Tn
   ·intro k hk rn;simp-dsimp[KP];refine⟨fun SN=>?_,fun JA=>?_⟩
    ·obtain⟨t,rk⟩:=Zw SN;have Ux:=Zo (n:=(k:Int)+1) (by omega)
     have Y6:¬(W6 h.events t=5/\Yo h.events t o.table o.key≠0/\t∉o.ZW.take k)->¬GQ h i o:=fun g g2=>g (g2.2.1 k SN t rk)
     have TL:h.events.take h.events.length=h.events:=a7I;simp-dsimp[rk];refine Zu (b2P ZY t) (by simp[Hs.av]) (by simp[Hs.av]) ?_;simp-dsimp[rk];refine⟨fun g1=>?_,fun g1=>Y6 fun g=>g1 g.1⟩;refine Zu (pU ZY h.events.length t o.table o.key) (by simp[Hs.av]) (by simp[Hs.av]) ?_;simp-dsimp[rk,TL];refine⟨fun g2=>Y6 fun g=>g.2.1 g2,fun g2=>?_⟩
     refine YZ [] [] k (fun j=>⟨[(9,vi j),(7,vi k),(2, .ptr 2 0),(5, .ptr 5 0)],
      [(5, .box [.iv (ci o.table), .iv (cb o.key.text), .iv (ci o.key.n), .iv (.v (.string o.key.s)), .iv (.Z6 1 (Yj o.ZW))]),(2, .box [.iv (.Z6 1 (Zd h.tables)), .iv (.Z6 22 (Zi h.events)), .iv (.Z6 5 (Zh h.order))])]⟩)
      (fun j=>t∉o.ZW.take j) ?_ ?_ ?_
     ·simp-dsimp
     ·simp
     ·intro j hj hnj;simp-dsimp[KO];refine⟨fun Xk=>?_,fun P4=>?_⟩
      ·obtain⟨u,hu⟩:∃u,o.ZW[j]? =some u:=Zw (by omega);have Nl:=Zo (n:=(j:Int)+1) (by omega);simp-dsimp[hu,rk,Nl,N5 hu];refine⟨fun g=>Y6 fun g3=>g3.2.2 ?_,fun g=>⟨Xk,hnj,fun g3=>g g3.symm⟩⟩;rw[<-g];exact a8y (by rw[a5N,if_pos Xk];exact hu)
      ·have hjk:j=k:=by omega
       subst hjk;simp-dsimp[Ux];exact⟨SN,rn.succ fun t' JW=>by rw[rk]at JW;cases JW;exact⟨g1,g2,hnj⟩⟩
    ·have Zt:ZH o.ZW.length fun i=>∀t,o.ZW[i]? =some t->W6 h.events t=5/\Yo h.events t o.table o.key≠0/\t∉o.ZW.take i:=fun j hj=>rn j (by omega)
     rw[Tz,decide_eq_true_eq];exact⟨fun g=>⟨hq,Zt,g⟩,fun g=>g.2.2⟩
theorem c2E{h:Hs}(ZY:h.Ok):ZU prog true H6 [h.av] [] (vb (Yp (oR h))) []:=by
 refine YD jd (by simp) (by decide) rfl ?_
 by_cases hn:1<=h.tables.length/\h.tables.length<=3
 ·have n1:¬(h.tables.length:Int)<1:=by omega
  have n2:¬(3:Int)<h.tables.length:=by omega
  simp-dsimp[c1M,Hs.av,n1,n2]
  refine YZ [] [] h.tables.length (fun i=>⟨[(3,vi i),(1, .ptr 1 0)],[(1, .box [.iv (.Z6 1 (Zd h.tables)), .iv (.Z6 22 (Zi h.events)), .iv (.Z6 5 (Zh h.order))])]⟩)
   (fun i=>ZH i fun j=>∀t,h.tables[j]? =some t->WQ t) ?_ ?_ ?_
  ·simp-dsimp
  ·exact Tn
  ·intro i hi hq;simp-dsimp[Gl];refine⟨fun ZV=>?_,fun X3=>?_⟩
   ·obtain⟨t,ht⟩:=Zw ZV;have hw:=Zo (n:=(i:Int)+1) (by omega);simp-dsimp[ht];refine Zu (c7C t) (by simp[YS]) (by simp[YS]) ?_;simp-dsimp[hw];refine⟨fun g g2=>g (g2.2 t (a8y ht)),fun g=>⟨ZV,hq.succ fun t' JW=>by rw[ht]at JW;cases JW;exact g⟩⟩
   ·refine⟨hn,fun t ht=>?_⟩;obtain⟨j,hj⟩:=a9B ht;exact hq j (by have:=(a7y.1 hj).1;omega) t hj
 ·have:¬oR h:=fun g=>hn g.1
  by_cases n1:(h.tables.length:Int)<1
  ·simp-dsimp[c1M,Hs.av,n1,this]
  ·have n2:(3:Int)<h.tables.length:=by omega
   simp-dsimp[c1M,Hs.av,n1,n2,this]
theorem c3E{h:Hs}(ZY:h.Ok):ZU prog true R2 [h.av] [] (vb (Yp (YP h))) []:=by
 refine YD jc (by simp) (by decide) rfl ?_;simp-dsimp[a1a,Hs.av];refine Zu (c2E ZY) (by simp[Hs.av]) (by simp[Hs.av]) ?_;simp-dsimp;refine⟨fun g1 g2=>g1 g2.1,fun hT=>?_⟩
 refine YZ [] [] h.events.length (fun i=>⟨[(4,vi i),(1, .ptr 1 0)],[(1, .box [.iv (.Z6 1 (Zd h.tables)), .iv (.Z6 22 (Zi h.events)), .iv (.Z6 5 (Zh h.order))])]⟩)
  (fun i=>ZH i fun i=>∀e,h.events[i]? =some e->Nk h (h.events.take i) e/\DZ h e) ?_ ?_ ?_
 ·simp-dsimp
 ·exact Tn
 ·intro i hi hq;have XS:=ZY.events;simp-dsimp[KN];refine⟨fun ZV=>?_,fun X3=>?_⟩
  ·obtain⟨e,he⟩:=Zw ZV;have hw:=Zo (n:=(i:Int)+1) (by omega);refine Zu (c9D ZY hT.2 he) (by simp[Hs.av]) (by simp[Hs.av]) ?_;simp-dsimp;refine Zu (c0E ZY he) (by simp[Hs.av]) (by simp[Hs.av]) ?_;simp-dsimp[hw]
   refine⟨fun g1=>⟨fun g2 g3=>g2 (g3.2.1 i ZV e he).2,fun g2=>⟨ZV,hq.succ fun e' Xr=>by rw[he]at Xr;cases Xr;exact⟨g1,g2⟩⟩⟩,fun g1 g3=>g1 (g3.2.1 i ZV e he).1⟩
  ·refine YZ [] [] h.order.length (fun i=>⟨[(7,vi i),(1, .ptr 1 0)],[(1, .box [.iv (.Z6 1 (Zd h.tables)), .iv (.Z6 22 (Zi h.events)), .iv (.Z6 5 (Zh h.order))])]⟩)
    (fun i=>ZH i fun i=>∀o,h.order[i]? =some o->GQ h i o) ?_ ?_ ?_
   ·simp-dsimp
   ·exact Tn
   ·intro j hj JC;have P8:=ZY.order;simp-dsimp[KM];refine⟨fun Xk=>?_,fun P4=>?_⟩
    ·obtain⟨o,ho⟩:=Zw Xk;have Nl:=Zo (n:=(j:Int)+1) (by omega);refine Zu (c1E ZY ho) (by simp[Hs.av]) (by simp[Hs.av]) ?_;simp-dsimp[Nl];exact⟨fun g1 g2=>g1 (g2.2.2 j Xk o ho),fun g=>⟨Xk,JC.succ fun o' XQ=>by rw[ho]at XQ;cases XQ;exact g⟩⟩
    ·exact⟨hT,fun k hk=>hq k (by omega),fun k hk=>JC k (by omega)⟩
theorem d3U{o:Ins}{j:Nat}{a b:Int}(ha:o.ZW[j]? =some a)(hb:o.ZW[j+1]? =some b):(R4 o)[j]? =some ⟨a,b,1,o.table,o.key,false⟩:=by
 unfold R4;rw[a0C,(List.getElem?_zip_eq_some (z:=(a,b))).2 ⟨ha,by rw[c7J];exact hb⟩];rfl
theorem d4U(o:Ins):(R4 o).length=o.ZW.length-1:=by
 unfold R4;rw[a6S,List.length_zip,List.length_tail];omega
def Pf(h:Hs)(i:Nat):List Eg:=((h.order.take i).flatMap R4).foldl YT []
theorem d5U{h:Hs}{i:Nat}{o:Ins}(ho:h.order[i]? =some o):Pf h (i+1)=(R4 o).foldl YT (Pf h i):=by
 unfold Pf;rw[show h.order.take (i+1)=h.order.take i++[o] by rw[a1J,ho];rfl,c4F,a3U];simp
def EG(l:List Eg)(o:Ins)(j:Nat):List Eg:=((R4 o).take j).foldl YT l
theorem d6U{l:List Eg}{o:Ins}{j:Nat}{e:Eg}(he:(R4 o)[j]? =some e):EG l o (j+1)=YT (EG l o j) e:=by
 unfold EG;rw[a1J,he,Option.toList_some,a3U];rfl
def tP(h:Hs)(q:Nat):List Eg:=((h.events.take q).flatMap (Qh h)).foldl YT (Pf h h.order.length)
theorem d7U{h:Hs}{q:Nat}{e:Ev}(he:h.events[q]? =some e):tP h (q+1)=(Qh h e).foldl YT (tP h q):=by
 unfold tP;rw[show h.events.take (q+1)=h.events.take q++[e] by rw[a1J,he];rfl,c4F,a3U];simp
theorem d8U{h:Hs}(hw:YP h):tP h h.events.length=YV h:=by
 unfold tP Pf YV Ji;rw[if_pos hw,a7I,a7I,a3U]
theorem d9U{h:Hs}(ZY:h.Ok){o:Ins}(ho:o∈h.order){x:Eg}(hx:x∈R4 o):x.key.s.size<2^63:=by
 obtain⟨_,_,_,_,_,rfl⟩:=a8N.1 hx;exact ZY.e7B o ho
theorem d0V{h:Hs}(ZY:h.Ok){e:Ev}(he:e∈h.events){x:Eg}(hx:x∈Qh h e):x.key.s.size<2^63:=by
 unfold Qh at hx;split at hx
 ·split at hx
  ·unfold JT Jj Mz at hx;have hk:=(ZY.ev e he).key;rw[a1E]at hx
   rcases hx with hx|hx
   ·split at hx
    ·rw[a2z]at hx;subst hx;exact hk
    ·cases hx
   ·split at hx
    ·rw[a2z]at hx;subst hx;exact hk
    ·cases hx
  ·split at hx
   ·unfold Il at hx;rw[a2N]at hx;obtain⟨o,ho,hx⟩:=hx;exact c1Y ZY ho hx
   ·cases hx
 ·cases hx
theorem d1V{h:Hs}(hw:YP h)(hm:h.NM)(e:Ev):(Qh h e).length<=20000:=by
 unfold Qh;split
 ·split
  ·unfold JT Jj Mz;rw[a7J]
   split<;>split<;>simp
  ·split
   ·unfold Il
    have:=IW (f:=QK h e) (B:=200) (l:=h.order) fun o _=>c3Y hw hm e o
    have:=a5E 200 hm.2;omega
   ·simp
 ·simp
theorem d2V{h:Hs}(ZY:h.Ok)(hw:YP h)(hm:h.NM)(i:Nat):I2 (Pf h i)/\(Pf h i).length<=10000:=by
 have h1:=IW (f:=R4) (B:=100) (l:=h.order.take i) fun o ho=>by
  rw[d4U];have:=c4Z hw (b4j ho);have:=hm.1;omega
 have h2:(h.order.take i).length<=100:=by rw[a7S];have:=hm.2;omega
 have h3:=a5E 100 h2;have h4:=om (es:=(h.order.take i).flatMap R4) (l:=[]);rw[c4n]at h4;refine⟨⟨?_,c7X (fun x hx=>by cases hx) fun x hx=>?_⟩,?_⟩
 ·show(((h.order.take i).flatMap R4).foldl YT []).length<2^40;omega
 ·rw[a2N]at hx;obtain⟨o,ho,hx⟩:=hx;exact d9U ZY (b4j ho) hx
 ·show(((h.order.take i).flatMap R4).foldl YT []).length<=10000;omega
theorem d3V{h:Hs}(ZY:h.Ok)(hw:YP h)(hm:h.NM)(q:Nat):I2 (tP h q)/\(tP h q).length<=10000000:=by
 have h1:=IW (f:=Qh h) (B:=20000) (l:=h.events.take q) fun e _=>d1V hw hm e
 have h2:(h.events.take q).length<=100:=by rw[a7S];have:=hm.1;omega
 have h3:=a5E 20000 h2;obtain⟨h5,h6⟩:=d2V ZY hw hm h.order.length;have h4:=om (es:=(h.events.take q).flatMap (Qh h)) (l:=Pf h h.order.length);refine⟨⟨?_,c7X h5.2 fun x hx=>?_⟩,?_⟩
 ·show(((h.events.take q).flatMap (Qh h)).foldl YT (Pf h h.order.length)).length<2^40;omega
 ·rw[a2N]at hx;obtain⟨e,he,hx⟩:=hx;exact d0V ZY (b4j he) hx
 ·show(((h.events.take q).flatMap (Qh h)).foldl YT (Pf h h.order.length)).length<=10000000;omega
theorem d4V{h:Hs}(ZY:h.Ok)(hm:h.NM):ZU prog false Vq [h.av] [] (.iv (Z5 (YV h))) []:=by
 have hW:=c3E ZY
 have XS:h.events.length<2^40:=by have:=hm.1;omega
 refine TK e1G (by simp[Hs.av]) (by decide) ?_;simp-dsimp[a1j,Hs.av];refine Zu hW (by simp[Hs.av]) (by simp[Hs.av]) ?_
 by_cases hw:YP h
 ·have hwt:Yp (YP h)=true:=Rn.2 hw;simp-dsimp[hwt];refine YZ [2,4] [6] h.order.length (fun i=>⟨[(5,vi i),(4, .iv (Z5 (Pf h i))),(1, .ptr 1 0)],[(1, .box [.iv (.Z6 1 (Zd h.tables)), .iv (.Z6 22 (Zi h.events)), .iv (.Z6 5 (Zh h.order))])]⟩) (fun _=>True) ?_ trivial ?_
  ·simp-dsimp[Pf,Z5,ZR]
  ·intro i hi _
   rcases a6U i h.order.length with ZV|X3
   ·obtain⟨o,ho⟩:=Zw ZV;have hom:=a8y ho;have hd:decide (i<h.order.length)=true:=decide_eq_true ZV;have SS:=Zo (n:=(i:Int)+1) (by have:=hm.2;omega);have Rl:=c4Z hw hom;have Zy:=d5U ho
    have Zt:EG (Pf h i) o (o.ZW.length-1)=Pf h (i+1):=by
     rw[Zy];unfold EG;rw[<-d4U,a7I]
    have Qf:∀j,I2 (EG (Pf h i) o j):=fun j=>c8X (d2V ZY hw hm i).1 (fun x hx=>d9U ZY hom (b4j hx)) (by
     have h1:=(d2V ZY hw hm i).2;have h2:((R4 o).take j).length<=(R4 o).length:=(List.take_sublist j (R4 o)).length_le;rw[d4U]at h2;have:=hm.1
     omega)
    simp-dsimp[Pm,ho,hd,Ins.Z8 o]
    refine YZ [] [] (o.ZW.length-1) (fun j=>⟨[(7,vi (j+1:Nat)),(6, .ptr 6 0),(5,vi i),(4, .iv (Z5 (EG (Pf h i) o j))),(1, .ptr 1 0)],
     [(6, .box (o.cells.map .iv)),(1, .box [.iv (.Z6 1 (Zd h.tables)), .iv (.Z6 22 (Zi h.events)), .iv (.Z6 5 (Zh h.order))])]⟩) (fun _=>True) ?_ trivial ?_
    ·simp-dsimp[Ins.Z8 o,EG]
    ·intro j hj _
     rcases a6U (j+1) o.ZW.length with Xk|P4
     ·obtain⟨b,hb⟩:=Zw Xk;obtain⟨a,ha⟩:∃a,o.ZW[j]? =some a:=Zw (by omega);have SQ:decide ((j:Int)+1<o.ZW.length)=true:=decide_eq_true (by omega);have w1:IntKind.i64.wrap ((j:Int)+1+1)=(j:Int)+1+1:=Zo (by have:=hm.1;omega);have w2:IntKind.i64.wrap (j:Int)=j:=Zo (by have:=hm.1;omega)
      have VW:((j:Int)+1).toNat=j+1:=by omega
      have jx:(0:Int)<=(j:Int)+1:=by omega
      have W8:=d6U (l:=Pf h i) (d3U ha hb);have QT:=c6w (Qf j) ⟨a,b,1,o.table,o.key,false⟩;rw[<-W8]at QT;simp-dsimp[Pn,Ins.Z8 o,SQ,w2,VW,jx,ha,hb,Zc];refine Yk QT rfl (by simp[Eg.av,Eg.cells]) (by simp[Eg.av,Eg.cells]) (by simp) (by simp) ?_;simp-dsimp[w1];omega
     ·have SQ:decide ((j:Int)+1<o.ZW.length)=false:=decide_eq_false (by omega)
      have ru:EG (Pf h i) o j=Pf h (i+1):=by
       rw[<-Zt];unfold EG;rw[a2B (by rw[d4U];omega),a2B (by rw[d4U];omega)]
      rw[ru];simp-dsimp[Pn,Ins.Z8 o,SQ,SS];exact ZV
   ·obtain rfl:i=h.order.length:=by omega
    simp-dsimp[Pm];refine YZ [] [9] h.events.length (fun q=>⟨[(8,vi q),(4, .iv (Z5 (tP h q))),(1, .ptr 1 0)],[(1, .box [.iv (.Z6 1 (Zd h.tables)), .iv (.Z6 22 (Zi h.events)), .iv (.Z6 5 (Zh h.order))])]⟩) (fun _=>True) ?_ trivial ?_
    ·simp-dsimp[tP]
    ·intro q hq _
     rcases a6U q h.events.length with Rz|f4Q
     ·obtain⟨e,he⟩:=Zw Rz;have hem:=a8y he;have hqd:decide (q<h.events.length)=true:=decide_eq_true Rz;have Jw:=Zo (n:=(q:Int)+1) (by omega);have Zy:=d7U he;obtain⟨f1t,g7p⟩:=d3V ZY hw hm q;simp-dsimp[Pk,he,hqd,Ev.Z8 e];refine Zu (b2P ZY e.txn) (by simp[Hs.av]) (by simp[Hs.av]) ?_;unfold Qh at Zy
      by_cases h5:W6 h.events e.txn=5
      ·rw[if_pos h5]at Zy
       by_cases k2:e.kind=2
       ·rw[if_pos k2]at Zy;have hrd:=d2B ZY hw XS (ZY.ev e hem) f1t (by omega);rw[<-Zy]at hrd;simp-dsimp[h5,k2];refine Yk hrd rfl (by simp[Hs.av,Ev.Z4,k2]) (by simp[Hs.av,Ev.Z4]) (by simp) (by simp) ?_;simp-dsimp[k2,h5,Jw];exact Rz
       ·rw[if_neg k2]at Zy
        by_cases k4:e.kind=4
        ·rw[if_pos k4]at Zy;have rC:=c8Y ZY hw hm (ZY.ev e hem) f1t (by omega);rw[<-Zy]at rC;simp-dsimp[h5,k4];refine Yk rC rfl (by simp[Hs.av,Ev.Z4,k4]) (by simp[Hs.av,Ev.Z4]) (by simp) (by simp) ?_;simp-dsimp[Jw];exact Rz
        ·rw[if_neg k4,b1T]at Zy;simp-dsimp[h5,k2,k4,Jw,Zy];exact Rz
      ·rw[if_neg h5,b1T]at Zy;simp-dsimp[h5,Jw,Zy];exact Rz
     ·obtain rfl:q=h.events.length:=by omega
      rw[d8U hw];simp-dsimp[Pk];exact⟨[1],by simp-dsimp[YR]⟩
 ·have hwf:Yp (YP h)=false:=NG.2 hw;rw[a7N hw];simp-dsimp[hwf];exact⟨[1,2],by simp-dsimp[YR,Z5,ZR]⟩
theorem d6D(a b:List Eg)(hl:a.length<2^62):ZU prog true XE [.iv (Z5 a), .iv (Z5 b)] [] (vb (decide (a=b))) []:=by
 refine YD e0E (by simp) (by decide) rfl ?_
 by_cases hlen:a.length=b.length
 ·have J3:(a.length:Int)=b.length:=by omega
  simp-dsimp[a9i,Z5,J3];refine YZ [] [] b.length (fun i=>⟨[(5,vi i),(0, .iv (.Z6 8 (ZR a))),(1, .iv (.Z6 8 (ZR b)))],[]⟩) (fun i=>a.take i=b.take i) ?_ ?_ ?_
  ·simp-dsimp
  ·simp
  ·intro i hi hq;simp-dsimp[FW,J3];refine⟨fun ZV=>?_,fun X3=>?_⟩
   ·obtain⟨x,hx⟩:∃x,a[i]? =some x:=Zw (by omega);obtain⟨y,hy⟩:=Zw ZV;have hw:=Zo (n:=(i:Int)+1) (by omega)
    have VW:∀{l:List Eg} {z:Eg},l[i]? =some z->l.take (i+1)=l.take i++[z]:=fun h=>by rw[a1J,h];rfl
    simp-dsimp[hx,hy,hw,Eg.cells,Zc];refine⟨fun g=>?_,fun g1 g2 g3 g4 g5 g6 g7 g8=>⟨ZV,?_⟩⟩
    ·rintro rfl;rw[hx]at hy;cases hy;simp at g
    ·rw[VW hx,VW hy,hq,Eg.eq_iff.2 ⟨g1,g2,g3,g4,Vl.eq_iff.2 ⟨g5,g6,g7⟩,g8⟩]
   ·rw[a2B (by omega),a2B X3]at hq;simpa using hq
 ·have ZS:¬a=b:=fun g=>hlen (by rw[g])
  have J3:¬(a.length:Int)=b.length:=by omega
  simp-dsimp[a9i,Z5,J3,ZS]
@[simp]theorem d7D(l:List Eg):(ZR l).take l.length=ZR l:=a2B (by simp)
theorem d8D{h:Hs}{e:Ev}(h1:e.row.length<=1)(h2:e.refs=[])(h3:e.pred=Jq)(h4:e.key.s=⟨#[]⟩):e.Ok:=
 ⟨by omega,by rw[h2];decide,by rw[h3];exact d0x,by rw[h4];decide,fun r hr=>by rw[h2]at hr;cases hr⟩
theorem qA{h:Hs}(hs:Y8 h):h.NM:=⟨by have:=hs.events;omega,by have:=hs.order;omega⟩
variable{l:List Eg}{ok:Eg->Bool}
theorem b0S(s:Nat):XG (ZZ l ok) s=Vn (fun n=>Yr (ZZ l ok) n [s]) (l.length+1):=rfl
theorem b1S{bf br:Int}{fs rs:List Int}(hf:Bk bf fs)(hr:Bk br rs)(hl:l.length<=2^29):
 ZU prog false Mc [.iv (Z5 l), .agg ((UF bf).map .iv), .agg ((UF br).map .iv)] [] (.iv (Z5 (ZL l fs rs))) []:=by
 refine TK oF (by simp) (by decide) ?_;simp-dsimp[a7l,UF]
 refine YZ [6] [] l.length (fun i=>⟨[(7,vi i),(4, .ptr 4 0),(5, .ptr 5 0),(0, .iv (Z5 l))],[(5, .box ((UF br).map .iv)),(4, .box ((UF bf).map .iv))]⟩)
  (fun i=>ZH i fun j=>Wg l fs j=true->XG (ZZ l (Zg rs)) j=[]) ?_ Tn ?_
 ·simp[UF]
 ·intro i hi hq
  by_cases Zb:i<l.length
  ·obtain⟨e,he⟩:=Zw Zb
   have sv:Wg l fs i=Zg fs e:=by simp[Wg,he]
   have SC:=Zo (n:=(i:Int)+1) (by omega);simp-dsimp[P3,Z5,he,Eg.cells,Zc,UF];refine⟨fun _=>?_,fun h=>absurd h (by omega)⟩;refine Zu (c5m hf e) (by simp[UF,Eg.av,Eg.cells]) (by simp[Eg.av,Eg.cells,UF]) ?_
   cases hk:Zg fs e with
   |false=>
    simp-dsimp[SC];exact⟨Zb,hq.succ fun h=>by rw[sv,hk]at h;cases h⟩
   |true=>
    simp-dsimp
    refine YZ [] [36] (l.length+1) (fun n=>⟨[(9,vi n),(7,vi i),(4, .ptr 4 0),(5, .ptr 5 0),(0, .iv (Z5 l))],[(5, .box ((UF br).map .iv)),(4, .box ((UF bf).map .iv))]⟩)
     (fun n=>Vn (fun n=>Yr (ZZ l (Zg rs)) n [i]) n=[]) ?_ rfl ?_
    ·simp[UF,Z5]
    ·intro n hn QJ;have hwn:=Zo (n:=(n:Int)+1) (by omega)
     by_cases hnl:n<=l.length
     ·have Re:=b7o QJ
      have GL:[[ci e.ZX,ci e.to,ci e.kind,ci e.table,cb e.key.text,ci e.key.n, .v (.string e.key.s),cb e.ZN]]=ZR (pick l [i]):=by
       rw[Ex he,OV];rfl
      simp-dsimp[P2,Z5,he,Eg.cells,Zc,UF];refine⟨fun _=>?_,fun h=>absurd h (by omega)⟩;refine Yk (c2n (l:=l) hr (by omega) n (p:=[i]) (by simp) (by simpa using Zb) (by simp;omega)) rfl (by simp[Z5,UF,GL];exact a2B (by simp[ZR,Ex he,OV])) (by simp) (by simp) (by simp) ?_
      have hwp:=Jm (l:=l) (c0n (ok:=Zg rs) n (p:=[i]) (by simpa using Zb))
      by_cases hz:Yr (ZZ l (Zg rs)) n [i]=[]
      ·simp-dsimp[hz,Z5,ZR,OV,hwn];exact⟨by omega,by rw[Re];exact hz⟩
      ·have Om:=a6I.2 hz
       have Pa:XG (ZZ l (Zg rs)) i=Yr (ZZ l (Zg rs)) n [i]:=by
        rw[b0S,b9o (j:=n+1) (by rw[Re];exact hz) (by omega),Re]
       have hfd:ZL l fs rs=pick l (Yr (ZZ l (Zg rs)) n [i]):=by
        unfold ZL;rw[c9a Zb (by rw[sv];exact hk) hq (by rw[Pa];exact hz),Pa]
       simp-dsimp[Z5,hwp,Om];exact⟨[5,4],by simp[YR,AV.Xj,hfd]⟩
     ·have ZS:n=l.length+1:=by omega
      have O1:¬(n:Int)<=l.length:=by omega
      have f5O:¬n<=l.length:=by omega
      have Pa:XG (ZZ l (Zg rs)) i=[]:=by rw[b0S, <-ZS];exact QJ
      simp-dsimp[P2,Z5,O1,f5O,SC,UF];exact⟨Zb,hq.succ fun _=>Pa⟩
  ·have Vp:i=l.length:=by omega
   subst Vp;simp-dsimp[P3,Z5];exact⟨[6,5,4],by simp[YR,AV.Xj,ZL,c0b hq,OV,ZR]⟩
end Go.Rt
end

section
namespace Go.Rt
open Go.Vm
theorem d1u:ZU prog false Mb [] [] (.iv (XJ [1,2,3,4,5])) []:=by
 refine TK kD (by simp) (by decide) ?_;simp-dsimp[Qs];exact⟨[1],by simp[YR,AV.Xj,XJ,Yj]⟩
theorem Fp{h:Hs}(hm:h.NM):(YV h).length<=2^29:=by
 by_cases hw:YP h
 ·unfold YV;rw[if_pos hw];have h1:=om (es:=Ji h) (l:=[]);have h2:=d3z hw hm;rw[c4n]at h1;omega
 ·rw[a7N hw];decide
section
variable{h:Hs}(ZY:h.Ok)(Xp:h.Rg)(hm:h.NM)
include ZY Xp hm
set_option maxHeartbeats 2000000
theorem d3u:ZU prog false YA [h.av] [] (.iv (Z5 (ZL (YV h) [1] [1]))) []:=by
 have g1:=b7A ZY Xp hm 4;have g2:=c2b (l:=YV h) (by have:=Fp hm;omega) (fs:=[1]) (rs:=[1]) (by decide) (by decide);refine TK lX (by simp) (by decide) ?_;simp-dsimp[a3o,Hs.av];refine e1q g1 (by decide) (by simp[Hs.av]) (by simp[Hs.av]) ?_;simp-dsimp;refine Yk g2 rfl (by simp[Z5,XJ,Yj]) (by simp) (by simp) (by simp) ?_;simp-dsimp
 exact⟨[1],by simp[YR,AV.Xj]⟩
theorem d4u:ZU prog false X4 [h.av] [] (.iv (Z5 (ZL (YV h) [1,2,3] [1,2,3]))) []:=by
 have g1:=b7A ZY Xp hm 6;have g2:=c2b (l:=YV h) (by have:=Fp hm;omega) (fs:=[1,2,3]) (rs:=[1,2,3]) (by decide) (by decide);refine TK lQ (by simp) (by decide) ?_;simp-dsimp[a5o,Hs.av];refine e1q g1 (by decide) (by simp[Hs.av]) (by simp[Hs.av]) ?_;simp-dsimp;refine Yk g2 rfl (by simp[Z5,XJ,Yj]) (by simp) (by simp) (by simp) ?_;simp-dsimp
 exact⟨[1],by simp[YR,AV.Xj]⟩
theorem d5u:ZU prog false XW [h.av] [] (.iv (Z5 (ZL (YV h) [4] [1,2,3,4,5]))) []:=by
 have g1:=b7A ZY Xp hm 4;have g2:=c2b (l:=YV h) (by have:=Fp hm;omega) (fs:=[4]) (rs:=[1,2,3,4,5]) (by decide) (by decide);refine TK lg (by simp) (by decide) ?_;simp-dsimp[a9o,Hs.av];refine e1q g1 (by decide) (by simp[Hs.av]) (by simp[Hs.av]) ?_;simp-dsimp;refine Yk d1u rfl (by simp) (by simp) (by simp) (by simp) ?_;simp-dsimp
 refine Yk g2 rfl (by simp[Z5,XJ,Yj]) (by simp) (by simp) (by simp) ?_;simp-dsimp;exact⟨[1],by simp[YR,AV.Xj]⟩
theorem d6u:ZU prog false XT [h.av] [] (.iv (Z5 (ZL (YV h) [4,5] [1,2,3,4,5]))) []:=by
 have g1:=b7A ZY Xp hm 4;have g2:=c2b (l:=YV h) (by have:=Fp hm;omega) (fs:=[4,5]) (rs:=[1,2,3,4,5]) (by decide) (by decide);refine TK kX (by simp) (by decide) ?_;simp-dsimp[a1p,Hs.av];refine e1q g1 (by decide) (by simp[Hs.av]) (by simp[Hs.av]) ?_;simp-dsimp;refine Yk d1u rfl (by simp) (by simp) (by simp) (by simp) ?_;simp-dsimp
 refine Yk g2 rfl (by simp[Z5,XJ,Yj]) (by simp) (by simp) (by simp) ?_;simp-dsimp;exact⟨[1],by simp[YR,AV.Xj]⟩
omit Xp
theorem d7u{bf br:Int}{fs rs:List Int}(hf:Bk bf fs)(hr:Bk br rs):ZU prog false QI [h.av,vi bf,vi br] [] (.iv (Z5 (ZL (YV h) fs rs))) []:=by
 have g1:=d4V ZY hm;have g2:=b1S (l:=YV h) hf hr (Fp hm);refine TK kI (by simp) (by decide) ?_;simp-dsimp[c1u,Hs.av];refine Yk g1 rfl (by simp[Hs.av]) (by simp[Hs.av]) (by simp) (by simp) ?_;simp-dsimp;refine Yk g2 rfl (by simp[Z5,UF]) (by simp[UF]) (by simp) (by simp) ?_;simp-dsimp;exact⟨[3],by simp[YR,AV.Xj]⟩
theorem d8u:ZU prog false Mu [h.av] [] (.iv (Z5 (ZL (YV h) [1] [1]))) []:=by
 refine TK lU (by simp) (by decide) ?_;simp-dsimp[a4o,Hs.av];refine Yk (d7u ZY hm .ww .ww) rfl (by simp[Hs.av]) (by simp[Hs.av]) (by simp) (by simp) ?_;simp-dsimp;exact⟨[1],by simp[YR,AV.Xj]⟩
theorem d9u:ZU prog false Mt [h.av] [] (.iv (Z5 (ZL (YV h) [1,2,3] [1,2,3]))) []:=by
 refine TK lN (by simp) (by decide) ?_;simp-dsimp[a6o,Hs.av];refine Yk (d7u ZY hm .On .On) rfl (by simp[Hs.av]) (by simp[Hs.av]) (by simp) (by simp) ?_;simp-dsimp;exact⟨[1],by simp[YR,AV.Xj]⟩
theorem d0v:ZU prog false Mr [h.av] [] (.iv (Z5 (ZL (YV h) [4] [1,2,3,4,5]))) []:=by
 refine TK k9 (by simp) (by decide) ?_;simp-dsimp[a0p,Hs.av];refine Yk (d7u ZY hm .rw .any) rfl (by simp[Hs.av]) (by simp[Hs.av]) (by simp) (by simp) ?_;simp-dsimp;exact⟨[1],by simp[YR,AV.Xj]⟩
theorem d1v:ZU prog false Mq [h.av] [] (.iv (Z5 (ZL (YV h) [4,5] [1,2,3,4,5]))) []:=by
 refine TK kU (by simp) (by decide) ?_;simp-dsimp[a2p,Hs.av];refine Yk (d7u ZY hm .W0 .any) rfl (by simp[Hs.av]) (by simp[Hs.av]) (by simp) (by simp) ?_;simp-dsimp;exact⟨[1],by simp[YR,AV.Xj]⟩
end
theorem d1c{h:Hs}:(YV h).Nodup:=(d1z h).nodup
theorem d2c{h:Hs}(ZY:h.Ok)(Xp:h.Rg)(hm:h.NM):ZU prog false XX [h.av] [] (.iv (Z5 (Xb (YV h) (YV h)))) []:=by
 have g1:=b7A ZY Xp hm 9;have hlen:=Fp hm;generalize YV h=es at*;refine TK lC (by simp) (by decide) ?_;simp-dsimp[a7o,Hs.av];refine e1q g1 (by decide) (by simp[Hs.av]) (by simp[Hs.av]) ?_;simp-dsimp
 refine YZ [1,2,9] [5,25] es.length (fun i=>⟨[(12,vi i),(11,vi es.length),(10, .iv (Z5 es)),(3, .iv (Z5 es))],[]⟩) (fun i=>∀j x,j<i->es[j]? =some x->Xe es x=false) ?_ (fun j x hj=>by omega) ?_
 ·simp[Z5]
 ·intro i hi hq
  by_cases Zb:i<es.length
  ·obtain⟨e,he⟩:=Zw Zb
   have ZS:es≠[]:=fun g=>by rw[g]at he;simp at he
   have hw:=Zo (n:=(i:Int)+1) (by omega)
   have hd:decide (i<es.length)=true:=by simpa using Zb
   have Zy:Xe es e=false->∀j x,j<i+1->es[j]? =some x->Xe es x=false:=fun g j x hj hx=>by
    rcases a6U j i with h1|h1
    ·exact hq j x h1 hx
    ·have:j=i:=by omega
     subst this;rw[he]at hx;cases hx;exact g
   by_cases k4:e.kind=4
   ·cases Nu:e.ZN with
    |false=>
     have QM:Xe es e=false:=by simp[Xe,Nu]
     simp-dsimp[TT,Z5,he,Eg.cells,Zc,k4,Nu,hw,hd];exact⟨Zb,Zy QM⟩
    |true=>
     obtain⟨js,RO,f6Q⟩:=c6a es (by omega) e;have g2:=c2b (l:=W9 es e) (by simp only[a7J]at RO;omega) (fs:=[4]) (rs:=[1]) (by decide) (by decide)
     have TL:a7U (W9 es e).length (ZR (W9 es e++js))=ZR (W9 es e):=by simp[ZR]
     have QM:Xe es e= !(ZL (W9 es e) [4] [1]).isEmpty:=by simp[Xe,k4,Nu]
     have VE:ZL (W9 es e) [4] [1]≠[]->Xb es es=ZL (W9 es e) [4] [1]:=fun g=>c8s he (by rw[QM];simpa using g) hq
     simp-dsimp[TT,Z5,he,Eg.cells,Zc,k4,Nu,hd];refine e1q (b3w ZS (by omega) 25) (by decide) (by simp[Z5]) (by simp) ?_;simp-dsimp;refine o9 (QZ [5] (by decide) _) ?_;refine TB f6Q rfl (by simp) (by simp[Eg.cells,k4,Nu]) (by simp) (by simp) (by simp) (by simp only[a6L,a5L,and_true];exact⟨_,rfl,d5z (by simp at RO⊢;omega)⟩) (by simp) ?_
     generalize W9 es e=ow at*;generalize ZL ow [4] [1]=F at*;simp-dsimp;refine Yk g2 rfl (by simp[Z5,XJ,Yj,TL]) (by simp) (by simp) (by simp) ?_
     by_cases hF:F=[]
     ·have e1C:Xe es e=false:=by rw[QM,hF];rfl
      simp-dsimp[hF,Z5,ZR,hw];exact⟨Zb,Zy e1C⟩
     ·have Yy:=a6I.2 hF;rw[VE hF];simp-dsimp[Yy,Z5];exact⟨[5,25],by simp[YR,AV.Xj]⟩
   ·have QM:Xe es e=false:=by simp[Xe,k4]
    simp-dsimp[TT,Z5,he,Eg.cells,Zc,k4,hw,hd];exact⟨Zb,Zy QM⟩
  ·have Vp:i=es.length:=by omega
   subst Vp
   have Y6:Xb es es=[]:=c7s fun e he=>by
    obtain⟨j,hj⟩:=a9B he;exact hq j e (a7y.1 hj).1 hj
   rw[Y6];simp-dsimp[TT,Z5];exact⟨[2],by simp[YR,AV.Xj,ZR]⟩
theorem d3c{es:List Eg}{e x:Eg}{k:Nat}(hx:es[k]? =some x):(es.take (k+1)).filter (TF e)=(es.take k).filter (TF e)++if TF e x then[x]else[]:=by
 rw[show es.take (k+1)=es.take k++[x] by rw[a1J,hx];rfl,List.filter_append]
 congr 1
 cases h:TF e x<;>simp[h]
theorem d4c{h:Hs}(ZY:h.Ok)(hm:h.NM):ZU prog false Ms [h.av] [] (.iv (Z5 (Xb (YV h) (YV h)))) []:=by
 have g1:=d4V ZY hm;have hlen:=Fp hm;have WA:=d1c (h:=h);generalize YV h=es at*;refine TK ll (by simp) (by decide) ?_;simp-dsimp[a8o,Hs.av];refine Yk g1 rfl (by simp[Hs.av]) (by simp[Hs.av]) (by simp) (by simp) ?_;simp-dsimp
 refine YZ [1,2] [5,6] es.length (fun i=>⟨[(4,vi i),(3, .iv (Z5 es))],[]⟩) (fun i=>∀j x,j<i->es[j]? =some x->Xe es x=false) ?_ (fun j x hj=>by omega) ?_
 ·simp[Z5]
 ·intro i hi hq
  by_cases Zb:i<es.length
  ·obtain⟨e,he⟩:=Zw Zb;have hw:=Zo (n:=(i:Int)+1) (by omega)
   have hd:decide (i<es.length)=true:=by simpa using Zb
   have Zy:Xe es e=false->∀j x,j<i+1->es[j]? =some x->Xe es x=false:=fun g j x hj hx=>by
    rcases a6U j i with h1|h1
    ·exact hq j x h1 hx
    ·have:j=i:=by omega
     subst this;rw[he]at hx;cases hx;exact g
   by_cases k4:e.kind=4
   ·cases Nu:e.ZN with
    |false=>
     have QM:Xe es e=false:=by simp[Xe,Nu]
     simp-dsimp[TS,Z5,he,Eg.cells,Zc,k4,Nu,hw,hd];exact⟨Zb,Zy QM⟩
    |true=>
     have RI:=c6s k4 WA (a8y he)
     have QM:Xe es e= !(ZL (Vg es e) [4] [1]).isEmpty:=by rw[<-RI];simp[Xe,k4,Nu]
     have VE:ZL (Vg es e) [4] [1]≠[]->Xb es es=ZL (Vg es e) [4] [1]:=fun g=>by rw[<-RI];exact c8s he (by rw[QM];simpa using g) hq
     simp-dsimp[TS,Z5,he,Eg.cells,Zc,k4,Nu,hd];refine YZ [31] [70] es.length (fun k=>⟨[(7,vi k),(6, .sl 6 8 0 (e::(es.take k).filter (TF e)).length),(5, .ptr 5 0),(4,vi i),(3, .iv (Z5 es))],[(6, .list 8 (ZR (e::(es.take k).filter (TF e)))),(5, .box (e.cells.map .iv))]⟩) (fun _=>True) ?_ trivial ?_
     ·simp[ZR,Z5,Eg.cells,k4,Nu]
     ·intro k hk _
      by_cases XL:k<es.length
      ·obtain⟨x,hx⟩:=Zw XL;have Ux:=Zo (n:=(k:Int)+1) (by omega)
       have Vx:decide (k<es.length)=true:=by simpa using XL
       have hfl:((es.take k).filter (TF e)).length<=2^29:=by
        have h1:=b9b (TF e) (es.take k);rw[a7S]at h1;omega
       rw[d3c hx];generalize (es.take k).filter (TF e)=G at*
       by_cases h1:x.kind=1
       ·by_cases h2:x.table=e.table
        ·by_cases h3:x.key=e.key
         ·have SS:TF e x=true:=by simp[TF,h1,h2,h3]
          simp-dsimp[U8,Z5,hx,Eg.cells,Zc,Vx,h1,h2,h3,SS,Ux];exact⟨by omega,by omega,XL,by simp[ZR,Eg.cells,h1,h2,h3]⟩
         ·have NI:¬(x.key.text=e.key.text/\x.key.n=e.key.n/\x.key.s=e.key.s):=fun g=>h3 (Vl.eq_iff.2 g)
          have SS:TF e x=false:=by simp[TF,h3]
          simp-dsimp[U8,Z5,hx,Eg.cells,Zc,Vx,h1,h2,SS,Ux];exact⟨fun e1 e2 e3=>NI ⟨e1,e2,e3⟩,fun _=>XL⟩
        ·have SS:TF e x=false:=by simp[TF,h2]
         simp-dsimp[U8,Z5,hx,Eg.cells,Zc,Vx,h1,h2,SS,Ux];exact XL
       ·have SS:TF e x=false:=by simp[TF,h1]
        simp-dsimp[U8,Z5,hx,Eg.cells,Zc,Vx,h1,SS,Ux];exact XL
      ·have LG:k=es.length:=by omega
       subst LG;rw[a7I];have hor:e::es.filter (TF e)=Vg es e:=rfl
       have P8:(Vg es e).length<=2^29:=by rw[<-c5s k4 WA (a8y he)];have:=b9b (Wh e) es;unfold W9;omega
       have g2:=b1S (l:=Vg es e) .rw .ww P8;have TL:a7U (Vg es e).length (ZR (Vg es e))=ZR (Vg es e):=a2B (by simp);rw[hor];generalize Vg es e=ow at*;simp-dsimp[U8,Z5];refine Yk g2 rfl (by simp[Z5,UF,TL]) (by simp[UF]) (by simp) (by simp) ?_;generalize ZL ow [4] [1]=F at*
       by_cases hF:F=[]
       ·have e1C:Xe es e=false:=by rw[QM,hF];rfl
        simp-dsimp[hF,Z5,ZR,hw];exact⟨Zb,Zy e1C⟩
       ·have Yy:=a6I.2 hF;rw[VE hF];simp-dsimp[Yy,Z5];exact⟨[5,6],by simp[YR,AV.Xj]⟩
   ·have QM:Xe es e=false:=by simp[Xe,k4]
    simp-dsimp[TS,Z5,he,Eg.cells,Zc,k4,hw,hd];exact⟨Zb,Zy QM⟩
  ·have Vp:i=es.length:=by omega
   subst Vp
   have Y6:Xb es es=[]:=c7s fun e he=>by
    obtain⟨j,hj⟩:=a9B he;exact hq j e (a7y.1 hj).1 hj
   rw[Y6];simp-dsimp[TS,Z5];exact⟨[2],by simp[YR,AV.Xj,ZR]⟩
end Go.Rt
end

section
namespace Go.Vm
def qL(t j:Nat)(x:IV)(s:St):Prop:=∃D,EndC D t j [x] s
theorem e9c{P:Program}{f:FuncId}{args:List AV}{n t:Nat}{c:Z9}(j:Nat)(x:IV)(hf:Zz P f=some (n,c,[.cell t none]))
 (YQ:args.length<=n) (hn:n<=999) (h:X5 P c ⟨SG 0 args,[]⟩ ⟨qL t j x,fun _ _=>False,qL t j x,fun _ _=>False⟩):
 ZU P false f args [] (.iv x) [(j, .box [.iv x])]:=
 Ip hf YQ rfl rfl (MA (SZ hn _ _ _ h) fun s h=>by
  obtain⟨D,h0,h1,h2,h3⟩:=h
  have Xm:((s.ZM D).hp.map (·.1)).all (· <1000)=true:=by
   rw[a0E];intro k hk;exact a0E.1 (se h3) k (e5p D hk)
  let E:=((s.ZM D).hp.map (·.1)).filter (· ≠j)
  have hE:E.all (· <1000)=true:=by
   rw[a0E];intro k hk;exact a0E.1 Xm k (a0F.1 hk).1
  have hj:j∉E:=fun hk=>by have:=(a0F.1 hk).2;simp at this
  obtain⟨g1,g2⟩:=b3v E hj h1 h2;refine⟨(s.ZM D).ZM E,[.iv x],(QZ D h0 s).trans (QZ E hE _),?_,rfl,fun id=>?_,fun h=>by cases h⟩
  ·simp[V4,g1,g2]
  ·simp only[look]
   by_cases e:j=id
   ·subst e;rw[if_pos rfl];exact g2
   ·rw[if_neg e];refine sf _ ?_
    cases hl:look (s.ZM D).hp id with
    |none=>exact .inr rfl
    |some o=>exact .inl (a0F.2 ⟨a0L hl,by simpa using Ne.symm e⟩))
theorem e0d{P:Program}{g:Operand}{ps:List Nat}{X Y:Z9}{s:St}{O:YC}(D D':List Nat)(r:Nat)(fr:List (Nat×AV))(I:List (List AV)->Prop)(H:List (List AV)->Hp)(cont:List (List AV)->List AV->Bool)(Hx:List (List AV)->List AV->Hp)
 {f:FuncId} {caps:List IV} {Ul:List (List AV)->List AV->Prop} {S:List (List AV)->Prop} (Wk:rJ P f caps Ul S) (h0:LeTo D s ⟨fr,H []⟩) (hg:St.ev ⟨fr,H []⟩ g= .fn f [] (caps.map Z3.val)) (ZY:XI P f=true)
 (hr:r<1000) (EZ:look (H []) r=none) (WA:(fr.map (·.1)).Nodup) (hlen:∀pre x,Ul pre x->x.length=ps.length) (hI:I [])
 (WN:∀vs pre x,I pre->Ul pre x->cont pre x=true->I (pre++[x])/\X5 P X (UU ps x ⟨fr,(r, .gh ZT vs (X0 fr))::H pre⟩)
  ⟨fun s'=>X5 P Y s' ⟨fun s2=>LeTo D' s2 ⟨[],(r, .gh ZT vs (X0 fr))::H (pre++[x])⟩,fun _ _=>False,fun _=>False,fun _ _=>False⟩,fun _ _=>False,fun _=>False,fun _ _=>False⟩)
 (f5t:∀vs pre x,I pre->Ul pre x->cont pre x=false->X5 P X (UU ps x ⟨fr,(r, .gh ZT vs (X0 fr))::H pre⟩)
  ⟨fun s'=>X5 P Y s' ⟨fun _=>False,fun _ _=>False,fun s2=>LeTo D' s2 ⟨[],(r, .gh ZT vs (X0 fr))::Hx pre x⟩,fun _ _=>False⟩,fun _ _=>False,fun _=>False,fun _ _=>False⟩)
 (g3c:∀vs pre x,I pre->Ul pre x->cont pre x=false->O.r ⟨fr,(r, .gh ZT vs (X0 fr))::Hx pre x⟩)
 (Nc:∀vs xs,I xs->S xs->O.n ⟨fr,(r, .gh ZT vs (X0 fr))::H xs⟩):Hy P g ps X Y s O:=by
 refine⟨f,caps,Ul,S,r,fr,I,H,cont,Hx,⟨h0.le,hg,ZY,Wk,hr,EZ,WA,hlen,hI⟩,fun vs pre x q1 q2 q3=>⟨(WN vs pre x q1 q2 q3).1,?_⟩,fun vs pre x q1 q2 q3=>?_,fun vs xs q1 q2=>⟨_,Le.refl _,Nc vs xs q1 q2⟩⟩
 ·refine Eo X ?_ ?_ ?_ ?_ (WN vs pre x q1 q2 q3).2
  ·intro s h;refine Eo Y ?_ ?_ ?_ ?_ h
   ·exact fun s2 h=>h.le
   ·exact fun _ _ h=>h
   ·exact fun _ h=>h
   ·exact fun _ _ h=>h
  ·exact fun _ _ h=>h
  ·exact fun _ h=>h
  ·exact fun _ _ h=>h
 ·refine Eo X ?_ ?_ ?_ ?_ (f5t vs pre x q1 q2 q3)
  ·intro s h;refine Eo Y ?_ ?_ ?_ ?_ h
   ·exact fun _ h=>h
   ·exact fun _ _ h=>h.elim
   ·exact fun s2 h=>⟨h.le,_,Le.refl _,g3c vs pre x q1 q2 q3⟩
   ·exact fun _ _ h=>h
  ·exact fun _ _ h=>h
  ·exact fun _ h=>h
  ·exact fun _ _ h=>h
end Go.Vm
namespace Go.Rt
open Go.Vm
def XV(e:Ev):List (Vl×Vs):=if e.kind=2 then[(e.key,e.ZX)]else if e.kind=4 then e.refs.map fun r=>(r.key,r.ZX)else[]
def Vc(p:Vl×Vs):List AV:=[p.1.av,p.2.av]
def FC(l:List (Vl×Vs)):List (List AV):=l.map Vc
def e3S(e:Ev)(pre:List (List AV))(x:List AV):Prop:=∃(i:Nat) (p:Vl×Vs),(XV e)[i]? =some p/\pre=FC ((XV e).take i)/\x=Vc p
def e4S(e:Ev)(xs:List (List AV)):Prop:=xs=FC (XV e)
theorem e2d{e:Ev}(h2:¬e.kind=2)(h4:e.kind=4){i:Nat}{r:Rf}(hr:e.refs[i]? =some r):(XV e)[i]? =some (r.key,r.ZX):=by
 unfold XV;rw[if_neg h2,if_pos h4,a0C,hr];rfl
theorem e3d{e:Ev}(h2:¬e.kind=2)(h4:e.kind=4){i:Nat}{r:Rf}(hr:e.refs[i]? =some r):FC ((XV e).take i)++[Vc (r.key,r.ZX)]=FC ((XV e).take (i+1)):=by
 rw[show(XV e).take (i+1)=(XV e).take i++[(r.key,r.ZX)] by rw[a1J,e2d h2 h4 hr];rfl];simp[FC]
theorem e4d:XI prog RU=true:=by kernel_rfl
theorem e5d{e:Ev}(XR:e.Ok):rJ prog RU [.pt e.cells] (e3S e) (e4S e):=by
 intro l Zs Zx cont hy;have qG:=XR.refs;refine c0d jD (by simp) (by decide) ?_
 by_cases k2:e.kind=2
 ·have hs:XV e=[(e.key,e.ZX)]:=by unfold XV;rw[if_pos k2]
  have hp:e3S e [] (Vc (e.key,e.ZX)):=⟨0,(e.key,e.ZX),by rw[hs];rfl,rfl,rfl⟩;simp-dsimp[a7q,Ev.Z8 e,k2];refine c1d (g:=1000) (hy _ _ hp) (by simp) (by simp[Vc]) rfl ?_
  cases VB:cont [] (Vc (e.key,e.ZX))with
  |true=>
   simp-dsimp[VB];exact⟨Zs [Vc (e.key,e.ZX)],by simp,fun A B w hz=> .inl ⟨_,by unfold e4S;rw[hs];rfl,hz⟩,by simp⟩
  |false=>
   simp-dsimp[VB];exact⟨Zx [] (Vc (e.key,e.ZX)),by simp,fun A B w hz=> .inr ⟨_,_,hz⟩,by simp⟩
 ·by_cases k4:e.kind=4
  ·have hlen:(XV e).length=e.refs.length:=by unfold XV;rw[if_neg k2,if_pos k4];simp
   simp-dsimp[a7q,Ev.Z8 e,k2,k4]
   refine YZ [] [4] e.refs.length (fun i=>⟨[(20,vi i),(19,vi e.refs.length),(18, .iv (.Z6 5 (Nn e.refs))),(0, .iv (.v (.func (.yield l) #[] #[]))),(1, .iv (.pt e.cells))],
    [(1000, .gh (Zs (FC ((XV e).take i))) [] [])]⟩) (fun _=>True) ?_ trivial ?_
   ·simp-dsimp[FC,Ev.Z8 e,k4]
   ·intro i hi _;simp-dsimp[Gt];refine⟨fun ZV=>?_,fun X3=>?_⟩
    ·obtain⟨r,hr⟩:=Zw ZV;have hw:=Zo (n:=(i:Int)+1) (by omega);have hp:e3S e (FC ((XV e).take i)) (Vc (r.key,r.ZX)):=⟨i,(r.key,r.ZX),e2d k2 k4 hr,rfl,rfl⟩;have YL:=e3d k2 k4 hr;simp-dsimp[hr,Rf.Z8 r];refine c1d (g:=1000) (hy _ _ hp) (by simp) (by simp[Vc]) rfl ?_
     cases VB:cont (FC ((XV e).take i)) (Vc (r.key,r.ZX))with
     |true=>
      simp-dsimp[VB,YL,hw];exact ZV
     |false=>
      simp-dsimp[VB];exact⟨Zx (FC ((XV e).take i)) (Vc (r.key,r.ZX)),by simp,fun A B w hz=> .inr ⟨_,_,hz⟩,by simp⟩
    ·have:(XV e).take i=XV e:=a2B (by omega);rw[this];exact⟨Zs (FC (XV e)),by simp,fun A B w hz=> .inl ⟨_,rfl,hz⟩,by simp⟩
  ·have hs:XV e=[]:=by unfold XV;rw[if_neg k2,if_neg k4]
   simp-dsimp[a7q,Ev.Z8 e,k2,k4];exact⟨Zs [],by simp,fun A B w hz=> .inl ⟨_,by unfold e4S;rw[hs];rfl,hz⟩,by simp⟩
theorem e6d(e:Ev):Ng prog false LW [e.av] [] (fun r K=>r= .fn RU [] [.ptr 1 0]/\K=[(1, .box (e.cells.map .iv))]):=by
 refine c3d _ jU (by simp) (by decide) (fun x H' h=>by
  obtain⟨rfl,rfl⟩:=h;refine⟨fun id o ho=>?_,by simp⟩;simp only[Vm.look]at ho;split at ho
  ·cases ho;rfl
  ·cases ho) ?_
 simp-dsimp[N0,Ev.av];exact⟨[],_,_,⟨rfl,rfl⟩,by simp-dsimp⟩
theorem e7d(e:Ev):ZU prog false LW [e.av] [] (.fn RU [] [.ptr 901 0]) [(901, .box (e.cells.map .iv))]:=by
 have h:=((e6d e).one (fun _ _ e=>e) (fun id o ho=>by
  simp only[Vm.look]at ho;split at ho
  ·cases ho;rfl
  ·cases ho)).Zk (Ren.swap 1 901) (by simp[Ev.av,AV.W7,AV.VM,AV.Vv,Ob.W7])
 have e1:(Ren.swap 1 901).to 1=901:=by simp[Ren.swap,sn]
 have e2:∀ρ:Nat->Nat,AV.V8 ρ∘AV.iv=AV.iv:=fun ρ=>funext fun x=>rfl
 have e3:∀ρ:Nat->Nat,AV.V7 ρ∘AV.iv=AV.iv:=fun ρ=>funext fun x=>rfl
 simpa[Ev.av,Hp.Zk,AV.Zk,AV.V7,AV.V8,Ob.Zk,Z3.Zk,e1,e2,e3]using h
end Go.Rt
end

section
namespace Go.Rt
open Go.Vm
abbrev skI:Sk:=(false,[.i .i64],false)
def Jn(l:List Int):List Value->Option (List IV)
 | [.int .i64 k]=>if k∈l then some [ci 1]else none
 | _=>none
theorem e1a:Jn []=fun _=>none:=by
 funext q;unfold Jn;split
 ·simp
 ·rfl
theorem e2a(l:List Int)(k:Int):ZG (Jn l) [.int .i64 k] (some [ci 1])=Jn (l++[k]):=by
 funext q
 simp only[ZG];split
 ·rename_i h;subst h;simp[Jn]
 ·rename_i ZS;unfold Jn;split
  ·rename_i q'
   have:q'≠k:=by rintro rfl;exact ZS rfl
   simp[this]
  ·rfl
theorem e3a(l:List Int)(k:Int):N9 [.iv (.v (.int .i64 0))] false false (Jn l [Value.int .i64 k])=vi (if k∈l then 1 else 0):=by
 unfold Jn
 by_cases h:k∈l<;>simp[h,N9]
def e4a(es:List Ev):IV:= .mp skI (Jn (Uk (XO es)))
theorem e5a{l:List Int}{x:Int}:x∈Uk l↔x∈l:=List.mem_mergeSort
def Tp(es:List Ev)(_:Ev)(_:Vl)(v:Vs):Bool:=decide (v.txn∉XO es)
def SX(es:List Ev)(e:Ev)(k:Vl)(v:Vs):Bool:=decide (v.txn≠e.txn)&&(Wq es e.table k ⟨v.txn,IntKind.i64.wrap (v.n+1)⟩).isSome
theorem e6a(es:List Ev)(os:List Ins)(e:Ev)(k:Vl)(v:Vs):ZU prog true L8 [.iv (X8 es os), .iv (e4a es),e.av,k.av,v.av] [] (vb (Tp es e k v)) []:=by
 refine YD km (by simp) (by decide) rfl ?_;simp-dsimp[a2q,e4a,Ev.av,Tp,e3a]
 by_cases h:v.txn∈Uk (XO es)
 ·have h2:=e5a.1 h;simp-dsimp[h,h2]
 ·have h2:v.txn∉XO es:=fun g=>h (e5a.2 g)
  simp-dsimp[h,h2]
theorem e7a{es:List Ev}(os:List Ins)(e:Ev)(k:Vl)(v:Vs)(Zf:I8 es):ZU prog true L6 [.iv (X8 es os), .iv (e4a es),e.av,k.av,v.av] [] (vb (SX es e k v)) []:=by
 have hR:=b7y es os e.table k ⟨v.txn,IntKind.i64.wrap (v.n+1)⟩ Zf;refine YD jX (by simp) (by decide) rfl ?_;simp-dsimp[a4q,e4a,Ev.av,SX];refine Yk hR rfl (by simp) (by simp) (by simp) (by simp) ?_
 by_cases h:v.txn=e.txn
 ·simp-dsimp[h]
 ·simp-dsimp[h]
def rQ(es:List Ev)(level:Int)(e:Ev):Bool:=decide (e.txn∈XO es/\level<=Oo es e.txn)
def JK(bad:Vl->Vs->Bool)(p:Vl×Vs):Bool:=decide (p.2≠⟨0,0⟩)&&bad p.1 p.2
def Vo(es:List Ev)(level:Int)(bad:Ev->Vl->Vs->Bool)(e:Ev):Bool:=rQ es level e&&(XV e).any (JK (bad e))
noncomputable def XH(h:Hs)(level:Int)(bad:Ev->Vl->Vs->Bool):Int:=open Classical in if YP h then S6 (Vo h.events level bad) h.events else-1
def Uo(h:Hs)(g:FuncId)(v:Int):Hp:=[(7, .box [.iv (X8 h.events h.order)]),(6, .box [vi v]),(5, .box [.fn g [] []]),(3, .box [.iv (.Z6 1 (Zd h.tables)), .iv (.Z6 22 (Zi h.events)), .iv (.Z6 5 (Zh h.order))])]
def e2S(bad:Vl->Vs->Bool):List AV->Bool
 | [.agg [.iv (.v (.bool t)), .iv (.v (.int _ n)), .iv (.v (.string s))], .agg [.iv (.v (.int _ a)), .iv (.v (.int _ b))]]=> !JK bad (⟨t,n,s⟩,⟨a,b⟩)
 | _=>true
theorem e9a(bad:Vl->Vs->Bool)(p:Vl×Vs):e2S bad (Vc p)= !JK bad p:=rfl
theorem e0b{h:Hs}(ZY:h.Ok)(XS:h.events.length<2^40)(level:Int){g:FuncId}(hg:XI prog g=true)(bad:Ev->Vl->Vs->Bool)
 (hb:YP h->∀e k v,ZU prog true g [.iv (X8 h.events h.order), .iv (e4a h.events),e.av,k.av,v.av] [] (vb (bad e k v)) []):
 ZU prog false L9 [h.av,vi level, .fn g [] []] [] (vi (XH h level bad)) [(6, .box [vi (XH h level bad)])]:=by
 refine e9c 6 (ci (XH h level bad)) kp (by simp[Hs.av]) (by decide) ?_;simp-dsimp[Qr,Hs.av]
 rcases e7m ZY XS with⟨hw,hR⟩|⟨hw,hR⟩
 ·have hb:=hb hw
  have Ea:XH h level bad=S6 (Vo h.events level bad) h.events:=by unfold XH;rw[if_pos hw]
  refine Yk hR rfl (by simp[Hs.av]) (by simp[Hs.av]) (by simp) (by simp) ?_;simp-dsimp[X8];refine Yk (b6y h.events h.order XS) rfl (by simp[X8]) (by simp) (by simp) (by simp) ?_;simp-dsimp
  have Rc:(Uk (XO h.events)).length<2^40:=by rw[c3Q];have:=d1p h.events;omega
  refine YZ [] [] (Uk (XO h.events)).length (fun i=>⟨[(23,vi i),(22,vi (Uk (XO h.events)).length),(21, .iv (XJ (Uk (XO h.events)))),(8, .ptr 8 0),(7, .ptr 7 0),(6, .ptr 6 0),(5, .ptr 5 0),(1,vi level),(3, .ptr 3 0)],
   (8, .box [.mpr 19])::(19, .map skI (Jn ((Uk (XO h.events)).take i)))::Uo h g 0⟩) (fun _=>True) ?_ trivial ?_
  ·simp-dsimp[Uo,X8,e1a]
  ·intro i hi _;simp-dsimp[KX,Uo];refine⟨fun ZV=>?_,fun X3=>?_⟩
   ·obtain⟨x,hx⟩:=Zw ZV;have hw:=Zo (n:=(i:Int)+1) (by omega)
    have YL:(Uk (XO h.events)).take (i+1)=(Uk (XO h.events)).take i++[x]:=by rw[a1J,hx];rfl
    simp-dsimp[hx,hw,e2a,YL,XJ];exact ZV
   ·rw[a2B X3];clear hi X3
    refine YZ [] [11,12,13,14,901,990] h.events.length (fun i=>⟨[(33,vi i),(32,vi h.events.length),(31, .iv (.Z6 22 (Zi h.events))),(8, .ptr 8 0),(7, .ptr 7 0),(6, .ptr 6 0),(5, .ptr 5 0),(1,vi level)],
     (8, .box [.mpr 19])::(19, .map skI (Jn (Uk (XO h.events))))::Uo h g 0⟩) (fun i=>ZH i fun j=>∀e,h.events[j]? =some e->Vo h.events level bad e=false) ?_ Tn ?_
    ·simp-dsimp[Uo]
    ·intro i hi hq;simp-dsimp[KW,Uo];refine⟨fun ZV=>?_,fun X3=>?_⟩
     ·obtain⟨e,he⟩:=Zw ZV;have XR:=ZY.ev e (a8y he);have hw:=Zo (n:=(i:Int)+1) (by omega);have hL:=b5y h.events h.order e.txn
      have Zy:Vo h.events level bad e=false->ZH (i+1) fun j=>∀e,h.events[j]? =some e->Vo h.events level bad e=false:=fun g=>hq.succ fun y hy=>by rw[he]at hy;cases hy;exact g
      have VE:Vo h.events level bad e=true->XH h level bad=i:=fun g=>by rw[Ea];exact rO he g hq
      clear hq;have hsc:(e.txn∈Uk (XO h.events))=(e.txn∈XO h.events):=propext e5a
      by_cases hc:e.txn∈XO h.events
      ·simp-dsimp[he,Ev.Z8 e,Zc,e3a,hsc,hc];refine Zu hL (by simp) (by simp) ?_
       by_cases E0:Oo h.events e.txn<level
       ·have hbe:Vo h.events level bad e=false:=by
         unfold Vo rQ;rw[decide_eq_false (fun g=>by omega)];rfl
        simp-dsimp[E0,hw];exact⟨ZV,Zy hbe⟩
       ·have hbe:Vo h.events level bad e=(XV e).any (JK (bad e)):=by
         unfold Vo rQ;rw[decide_eq_true ⟨hc,by omega⟩];rfl
        simp-dsimp[E0];refine Yk (e7d e) rfl (by simp[Ev.av,Ev.Z8 e]) (by simp[Ev.av,Ev.Z8 e]) (by simp) (by simp) ?_;simp-dsimp
        have NY:([AV.iv (ci e.txn),AV.iv (ci e.kind),AV.iv (ci e.level),AV.iv (ci e.table),AV.iv (cb e.key.text),AV.iv (ci e.key.n),AV.iv (IV.v (Value.string e.key.s)),
         AV.iv (ci e.ZX.txn),AV.iv (ci e.ZX.n),AV.iv (ci e.n),AV.iv (IV.Z6 3 (YM e.row)),AV.iv (ci e.pred.op),AV.iv (ci e.pred.col),AV.iv (cb e.pred.v.text),AV.iv (ci e.pred.v.n),
         AV.iv (IV.v (Value.string e.pred.v.s)),AV.iv (cb e.pred.w.text),AV.iv (ci e.pred.w.n),AV.iv (IV.v (Value.string e.pred.w.s)),AV.iv (IV.Z6 9 (List.map Pd.cells e.pred.l)),
         AV.iv (IV.Z6 5 (Nn e.refs)),AV.iv (cb e.cur)]:List AV)=e.cells.map .iv:=by rw[Ev.Z8];rfl
        rw[NY]
        refine e0d [901] [13,14] 990 [(52, .fn RU [] [.val (.pt e.cells)]),(33,vi i),(32,vi h.events.length),(31, .iv (.Z6 22 (Zi h.events))),(12, .ptr 12 0),(11, .ptr 11 0),(8, .ptr 8 0),(7, .ptr 7 0),(6, .ptr 6 0),(5, .ptr 5 0),(1,vi level)]
         (fun pre=>∀x,x∈pre->e2S (bad e) x=true) (fun _=>(12, .box (e.cells.map .iv))::(11, .box [vi i])::(8, .box [.mpr 19])::(19, .map skI (Jn (Uk (XO h.events))))::Uo h g 0)
         (fun _ x=>e2S (bad e) x) (fun _ _=>(12, .box (e.cells.map .iv))::(11, .box [vi i])::(8, .box [.mpr 19])::(19, .map skI (Jn (Uk (XO h.events))))::Uo h g i)
         (e5d XR) ?_ (by simp) e4d (by decide) (by simp[Uo]) (by simp) ?_ (fun x hx=>by cases hx) ?_ ?_ ?_ ?_
        ·simp-dsimp[Uo]
        ·rintro pre _ ⟨j,p,_,_,rfl⟩;rfl
        ·rintro vs pre _ hI ⟨j,p,hp,OY,rfl⟩ VB;rw[e9a]at VB;refine⟨fun x hx=>?_,?_⟩
         ·rcases a1E.1 hx with q|q
          ·exact hI x q
          ·rw[a2z.1 q,e9a];exact VB
         ·clear hI
          by_cases hv:p.2=⟨0,0⟩
          ·obtain⟨v1,v2⟩:=Vs.eq_iff.1 hv;simp-dsimp[Sm,Sl,UU,St.set_mk,Vc,X0,Uo,Zc,v1,v2]
          ·have hv2:p.2.txn=0->¬p.2.n=0:=fun q1 q2=>hv (Vs.eq_iff.2 ⟨q1,q2⟩)
           have hbb:bad e p.1 p.2=false:=by simpa[JK,hv]using VB
           simp-dsimp[Sm,Sl,UU,St.set_mk,Vc,X0,Uo,Zc]
           refine fun _=>⟨hg,O8 (hb e p.1 p.2) (by simp) (by simp[Ev.av,e4a]) (by simp[Ev.av]) ?_⟩
           simp-dsimp[hbb]
        ·rintro vs pre _ hI ⟨j,p,hp,OY,rfl⟩ VB;rw[e9a]at VB
         have VB:JK (bad e) p=true:=by simpa using VB
         have hv:¬p.2=⟨0,0⟩:=fun q=>by simp[JK,q]at VB
         have hv2:p.2.txn=0->¬p.2.n=0:=fun q1 q2=>hv (Vs.eq_iff.2 ⟨q1,q2⟩)
         have hbb:bad e p.1 p.2=true:=by simpa[JK,hv]using VB
         clear hI;simp-dsimp[Sm,Sl,UU,St.set_mk,Vc,X0,Uo,Zc];refine⟨fun _=>⟨hg,O8 (hb e p.1 p.2) (by simp) (by simp[Ev.av,e4a]) (by simp[Ev.av]) ?_⟩,fun q1 q2=>absurd q2 (hv2 q1)⟩;simp-dsimp[hbb]
        ·rintro vs pre _ hI ⟨j,p,hp,OY,rfl⟩ VB;rw[e9a]at VB
         have VB:JK (bad e) p=true:=by simpa using VB
         rw[VE (by rw[hbe];exact b4o.2 ⟨p,a8y hp,VB⟩)]
         refine⟨[],?_⟩;simp[Uo]
        ·intro vs xs hI hS
         have D9:Vo h.events level bad e=false:=by
          rw[hbe];rw[d5s];intro q;obtain⟨p,hp,hb⟩:=b4o.1 q;have:=hI (Vc p) (by rw[hS];exact a3E.2 ⟨p,hp,rfl⟩)
          rw[e9a,hb]at this;cases this
         simp-dsimp[Uo,X0,hw];exact⟨ZV,Zy D9⟩
      ·have hbe:Vo h.events level bad e=false:=by
        unfold Vo rQ;rw[decide_eq_false (fun g=>hc g.1)];rfl
       simp-dsimp[he,Ev.Z8 e,Zc,e3a,hsc,hc,hw];exact⟨ZV,Zy hbe⟩
     ·rw[Ea,Ef (EY X3 hq)];exact⟨[],by simp⟩
 ·have Ea:XH h level bad= -1:=by unfold XH;rw[if_neg hw]
  refine Yk hR rfl (by simp[Hs.av]) (by simp[Hs.av]) (by simp) (by simp) ?_;simp-dsimp[Ea];exact⟨[],by simp⟩
def UX(h:Hs)(what:Int)(e:Ev)(k:Vl)(v:Vs):Bool:=if v=⟨0,0⟩then false else if what=1 then decide (W6 h.events v.txn≠5)else decide (v.txn≠e.txn/\v.n≠Yo h.events v.txn e.table k)
def JL(es:List Ev)(txn:Int):Int:=((es.find? (Ev.Rk txn)).map Ev.level).getD 0
theorem b6n{h:Hs}(ZY:h.Ok)(e:Ev)(k:Vl)(v:Vs)(what:Int):ZU prog true OE [h.av,e.av,k.av,v.av,vi what] [] (vb (UX h what e k v)) []:=by
 have hW:=pU ZY h.events.length v.txn e.table k;rw[a7I]at hW;have hC:=b2P ZY v.txn;refine YD pR (by simp[Hs.av]) (by decide) rfl ?_
 by_cases h0:v=⟨0,0⟩
 ·have hb:UX h what e k v=false:=by unfold UX;rw[if_pos h0]
  subst h0;rw[hb];simp-dsimp[c3u,Hs.av,Ev.av]
 ·have h1:v.txn=0->¬v.n=0:=fun h h'=>h0 (Vs.eq_iff.2 ⟨h,h'⟩)
  have hb:UX h what e k v=if what=1 then decide (W6 h.events v.txn≠5)else decide (v.txn≠e.txn/\v.n≠Yo h.events v.txn e.table k):=by unfold UX;rw[if_neg h0]
  rw[hb]
  by_cases UY:what=1
  ·simp-dsimp[c3u,Hs.av,Ev.av,UY];refine⟨fun a b=>absurd b (h1 a),fun _=>?_⟩;refine Zu hC (by simp[Hs.av]) (by simp[Hs.av]) ?_;simp-dsimp
  ·simp-dsimp[c3u,Hs.av,Ev.av,UY];refine⟨fun a b=>absurd b (h1 a),fun _=>?_⟩;refine Zu hW (by simp[Hs.av]) (by simp[Hs.av]) ?_
   by_cases ht:v.txn=e.txn
   ·simp-dsimp[ht]
   ·simp-dsimp[ht];rfl
def VD(h:Hs)(level what:Int)(e:Ev):Bool:=decide (W6 h.events e.txn=5/\level<=JL h.events e.txn)&&(XV e).any fun p=>UX h what e p.1 p.2
noncomputable def SV(h:Hs)(level what:Int):Int:=open Classical in if YP h then S6 (VD h level what) h.events else-1
theorem b7n{α:Type}{p:α->Bool}{l:List α}(h:∀x,x∈l->p x=false):l.any p=false:=by
 rw[d5s];intro g;obtain⟨x,hx,hp⟩:=b4o.1 g;rw[h x hx]at hp;cases hp
theorem b8n{h:Hs}(ZY:h.Ok)(XS:h.events.length<2^40)(level what:Int):ZU prog true L7 [h.av,vi level,vi what] [] (vi (SV h level what)) []:=by
 refine YD pQ (by simp[Hs.av]) (by decide) rfl ?_;simp-dsimp[c2u,Hs.av];refine Zu (c3E ZY) (by simp[Hs.av]) (by simp[Hs.av]) ?_
 by_cases hw:YP h
 ·have hwt:Yp (
   YP h)=true:=Rn.2 hw
  have Ea:SV h level what=S6 (VD h level what) h.events:=by unfold SV;rw[if_pos hw]
  simp-dsimp[hwt]
  refine YZ [] [9] h.events.length (fun i=>⟨[(8,vi i),(3, .ptr 3 0),(1,vi level),(2,vi what)],[(3, .box [.iv (.Z6 1 (Zd h.tables)), .iv (.Z6 22 (Zi h.events)), .iv (.Z6 5 (Zh h.order))])]⟩)
   (fun i=>ZH i fun j=>∀e,h.events[j]? =some e->VD h level what e=false) ?_ Tn ?_
  ·simp-dsimp
  ·intro i hi hq;simp-dsimp[Lz];refine⟨fun ZV=>?_,fun X3=>?_⟩
   ·obtain⟨e,he⟩:=Zw ZV;have XR:=ZY.ev e (a8y he);have qG:=XR.refs;have hw:=Zo (n:=(i:Int)+1) (by omega);have hC:=b2P ZY e.txn;have hL:=b9P ZY e.txn
    have hB:∀k v,ZU prog true OE [h.av,e.av,k.av,v.av,vi what] [] (vb (UX h what e k v)) []:=fun k v=>b6n ZY e k v what
    have Zy:VD h level what e=false->ZH (i+1) fun j=>∀e,h.events[j]? =some e->VD h level what e=false:=fun g=>hq.succ fun y hy=>by rw[he]at hy;cases hy;exact g
    have VE:VD h level what e=true->SV h level what=i:=fun g=>by rw[Ea];exact rO he g hq
    clear hq;simp-dsimp[he,Ev.Z8 e,Zc];refine Zu hC (by simp[Hs.av]) (by simp[Hs.av]) ?_
    by_cases h5:W6 h.events e.txn=5
    ·simp-dsimp[h5];refine Zu hL (by simp[Hs.av]) (by simp[Hs.av]) ?_;have f2N:((h.events.find? (Ev.Rk e.txn)).map Ev.level).getD 0=JL h.events e.txn:=rfl;rw[f2N]
     by_cases E0:JL h.events e.txn<level
     ·have hb:VD h level what e=false:=by unfold VD;rw[decide_eq_false (by omega)];rfl
      simp-dsimp[E0,hw];exact⟨ZV,Zy hb⟩
     ·have T4:VD h level what e=(XV e).any fun p=>UX h what e p.1 p.2:=by unfold VD;rw[decide_eq_true ⟨h5,by omega⟩,c6T]
      by_cases k2:e.kind=2
      ·have hs:XV e=[(e.key,e.ZX)]:=by unfold XV;rw[if_pos k2]
       rw[hs]at T4;simp only[c2H,List.any_nil,Bool.or_false]at T4;simp-dsimp[E0,k2];refine Zu (hB e.key e.ZX) (by simp[Hs.av,Ev.av,Ev.Z8 e,k2]) (by simp[Hs.av,Ev.av]) ?_
       cases hbv:UX h what e e.key e.ZX with
       |true=>
        rw[VE (by rw[T4,hbv])];simp-dsimp
       |false=>
        have D9:VD h level what e=false:=by rw[T4,hbv]
        simp-dsimp
        refine YZ [] [] 0 (fun k=>⟨[(11,vi k),(9, .ptr 9 0),(8,vi i),(3, .ptr 3 0),(1,vi level),(2,vi what)],[(9, .box (e.cells.map .iv)),(3, .box [.iv (.Z6 1 (Zd h.tables)), .iv (.Z6 22 (Zi h.events)), .iv (.Z6 5 (Zh h.order))])]⟩)
         (fun _=>True) ?_ trivial ?_
        ·simp-dsimp[Ev.Z8 e,k2]
        ·intro k hk _
         obtain rfl:k=0:=by omega
         by_cases EZ:0<e.refs.length
         ·simp-dsimp[VY,Ev.Z8 e,k2,EZ,hw];exact⟨ZV,Zy D9⟩
         ·have Rj:e.refs.length=0:=by omega
          simp-dsimp[VY,Ev.Z8 e,k2,Rj,hw];exact⟨ZV,Zy D9⟩
      ·by_cases k4:e.kind=4
       ·have hs:XV e=e.refs.map fun r=>(r.key,r.ZX):=by unfold XV;rw[if_neg k2,if_pos k4]
        have rT:VD h level what e=e.refs.any fun r=>UX h what e r.key r.ZX:=by rw[T4,hs,List.any_map];rfl
        simp-dsimp[E0,k2,k4]
        refine YZ [] [] e.refs.length (fun k=>⟨[(11,vi k),(9, .ptr 9 0),(8,vi i),(3, .ptr 3 0),(1,vi level),(2,vi what)],[(9, .box (e.cells.map .iv)),(3, .box [.iv (.Z6 1 (Zd h.tables)), .iv (.Z6 22 (Zi h.events)), .iv (.Z6 5 (Zh h.order))])]⟩)
         (fun k=>ZH k fun j=>∀r,e.refs[j]? =some r->UX h what e r.key r.ZX=false) ?_ Tn ?_
        ·simp-dsimp[Ev.Z8 e,k4]
        ·intro k hk QJ
         by_cases XL:k<e.refs.length
         ·obtain⟨r,hr⟩:=Zw XL;have Ux:=Zo (n:=(k:Int)+1) (by omega)
          have Vx:decide (k<e.refs.length)=true:=by simpa using XL
          simp-dsimp[VY,Ev.Z8 e,k4,Vx,hr,Rf.Z8 r,Zc];refine Zu (hB r.key r.ZX) (by simp[Hs.av,Ev.av,Ev.Z8 e,k4]) (by simp[Hs.av,Ev.av]) ?_
          cases hbv:UX h what e r.key r.ZX with
          |true=>
           rw[VE (by rw[rT];exact b4o.2 ⟨r,a8y hr,hbv⟩)]
           simp-dsimp
          |false=>
           simp-dsimp[Ux];exact⟨XL,QJ.succ fun y hy=>by rw[hr]at hy;cases hy;exact hbv⟩
         ·have LG:k=e.refs.length:=by omega
          have D9:VD h level what e=false:=by rw[rT];exact b7n (EY (by omega) QJ)
          subst LG;simp-dsimp[VY,Ev.Z8 e,k4,hw];exact⟨ZV,Zy D9⟩
       ·have hs:XV e=[]:=by unfold XV;rw[if_neg k2,if_neg k4]
        have D9:VD h level what e=false:=by rw[T4,hs];rfl
        simp-dsimp[E0,k2]
        refine YZ [] [] 0 (fun k=>⟨[(11,vi k),(9, .ptr 9 0),(8,vi i),(3, .ptr 3 0),(1,vi level),(2,vi what)],[(9, .box (e.cells.map .iv)),(3, .box [.iv (.Z6 1 (Zd h.tables)), .iv (.Z6 22 (Zi h.events)), .iv (.Z6 5 (Zh h.order))])]⟩)
         (fun _=>True) ?_ trivial ?_
        ·simp-dsimp[Ev.Z8 e,k4]
        ·intro k hk _
         obtain rfl:k=0:=by omega
         by_cases EZ:0<e.refs.length
         ·simp-dsimp[VY,Ev.Z8 e,k4,EZ,hw];exact⟨ZV,Zy D9⟩
         ·have Rj:e.refs.length=0:=by omega
          simp-dsimp[VY,Ev.Z8 e,k4,Rj,hw];exact⟨ZV,Zy D9⟩
    ·have hb:VD h level what e=false:=by unfold VD;rw[decide_eq_false (fun g=>h5 g.1)];rfl
     simp-dsimp[h5,hw];exact⟨ZV,Zy hb⟩
   ·rw[Ea,Ef (EY X3 hq)]
 ·have hwf:Yp (YP h)=false:=NG.2 hw
  have Ea:SV h level what= -1:=by unfold SV;rw[if_neg hw]
  simp-dsimp[hwf,Ea]
theorem b9n{h:Hs}(ZY:h.Ok)(XS:h.events.length<2^40)(level:Int):ZU prog true Mm [h.av,vi level] [] (vi (SV h level 1)) []:=by
 have g1:=b8n ZY XS level 1;refine YD pP (by simp[Hs.av]) (by decide) rfl ?_;simp-dsimp[a4p,Hs.av];refine Zu g1 (by simp[Hs.av]) (by simp[Hs.av]) ?_;simp-dsimp
theorem b0o{h:Hs}(ZY:h.Ok)(XS:h.events.length<2^40)(level:Int):ZU prog true Ml [h.av,vi level] [] (vi (SV h level 2)) []:=by
 have g1:=b8n ZY XS level 2;refine YD pO (by simp[Hs.av]) (by decide) rfl ?_;simp-dsimp[a6p,Hs.av];refine Zu g1 (by simp[Hs.av]) (by simp[Hs.av]) ?_;simp-dsimp
theorem b1o{h:Hs}(ZY:h.Ok)(XS:h.events.length<2^40)(level:Int):ZU prog true Ua [h.av,vi level] [] (vi (XH h level (Tp h.events))) []:=by
 have g1:=e0b ZY XS level (g:=L8) (by kernel_rfl) (Tp h.events) (fun _ e k v=>e6a h.events h.order e k v);generalize XH h level (Tp h.events)=v at*;refine YD pN (by simp[Hs.av]) (by decide) rfl ?_;simp-dsimp[a3p,Hs.av];refine Yk g1 rfl (by simp[Hs.av]) (by simp[Hs.av]) (by simp) (by simp) ?_;simp-dsimp
theorem b2o{h:Hs}(ZY:h.Ok)(XS:h.events.length<2^40)(level:Int):ZU prog true R0 [h.av,vi level] [] (vi (XH h level (SX h.events))) []:=by
 have g1:=e0b ZY XS level (g:=L6) (by kernel_rfl) (SX h.events) (fun hw e k v=>e7a h.order e k v (d1x hw));generalize XH h level (SX h.events)=v at*;refine YD pM (by simp[Hs.av]) (by decide) rfl ?_;simp-dsimp[a5p,Hs.av];refine Yk g1 rfl (by simp[Hs.av]) (by simp[Hs.av]) (by simp) (by simp) ?_;simp-dsimp
def Fv(t:Int)(c:Bool):Ev:=⟨t,2,0,0,k5,⟨0,0⟩,0,[],Jq,[],c⟩
def Pb:Hs:=⟨[[false]],[exB 1 3,exB 2 3,Fv 1 false,Fv 2 true,exW 1 1 [k5],exC 1,exW 2 1 [],exC 2],[⟨0,k5,[1,2]⟩]⟩
def exE:List Eg:=[⟨1,2,1,0,k5,false⟩,⟨2,1,4,0,k5,true⟩]
theorem e0k:YP Pb:=by decide
theorem e1k:YV Pb=exE:=by
 unfold YV;rw[if_pos e0k]
 decide
theorem e2k:Pb.Ok:=by
 refine⟨by decide,by decide,by decide,fun e he=>?_,fun o ho=>?_,fun t ht=>?_,fun o ho=>?_⟩
 ·simp only[Pb,a2E,b8w,or_false]at he
  rcases he with rfl|rfl|rfl|rfl|rfl|rfl|rfl|rfl<;>exact d8D (h:=Pb) (by decide) rfl rfl rfl
 ·simp only[Pb,a2z]at ho;subst ho;decide
 ·simp only[Pb,a2z]at ht;subst ht;decide
 ·simp only[Pb,a2z]at ho;subst ho;decide
theorem e3k:Pb.Rg:=by
 intro e he;simp only[Pb,a2E,b8w,or_false]at he
 rcases he with rfl|rfl|rfl|rfl|rfl|rfl|rfl|rfl<;>exact⟨by decide,by decide⟩
theorem e4k:Pb.NM:=⟨by decide,by decide⟩
theorem e5k(t:Int)(c:Bool):(Fv t c).cells=[ci t,ci 2,ci 0,ci 0,cb false,ci 5, .v (.string ⟨#[]⟩),ci 0,ci 0,ci 0, .Z6 3 [],ci 0,ci 0,cb false,ci 0, .v (.string ⟨#[]⟩),cb false,ci 0, .v (.string ⟨#[]⟩), .Z6 9 [], .Z6 5 [],cb c]:=rfl
theorem EF:Pb.av= .agg [.iv (.Z6 1 [[.Z6 1 [[cb false]]]]), .iv (.Z6 22 [(exB 1 3).cells,(exB 2 3).cells,(Fv 1 false).cells,(Fv 2 true).cells,(exW 1 1 [k5]).cells,(exC 1).cells,(exW 2 1 []).cells,(exC 2).cells]), .iv (.Z6 5 [[ci 0,cb false,ci 5, .v (.string ⟨#[]⟩), .Z6 1 [[ci 1],[ci 2]]]])]:=rfl
theorem e7k:ZL exE [1] [1]=[]:=by decide
theorem e8k:ZL exE [1,2,3] [1,2,3]=[]:=by decide
theorem e9k:ZL exE [4] [1,2,3,4,5]=[⟨2,1,4,0,k5,true⟩,⟨1,2,1,0,k5,false⟩]:=by decide
theorem e0l:Xb exE exE=[⟨2,1,4,0,k5,true⟩,⟨1,2,1,0,k5,false⟩]:=by decide
theorem e1l:XH Pb 1 (Tp Pb.events)= -1:=by
 unfold XH;rw[if_pos e0k]
 decide
theorem e2l:ZU prog false YA [Pb.av] [] (.iv (.Z6 8 [])) []:=by
 have:=d3u e2k e3k e4k;rw[e1k,e7k]at this;exact this
theorem e3l:ZU prog false X4 [Pb.av] [] (.iv (.Z6 8 [])) []:=by
 have:=d4u e2k e3k e4k;rw[e1k,e8k]at this;exact this
theorem e4l:ZU prog false XW [Pb.av] [] (.iv (.Z6 8 [[ci 2,ci 1,ci 4,ci 0,cb false,ci 5, .v (.string ⟨#[]⟩),cb true],[ci 1,ci 2,ci 1,ci 0,cb false,ci 5, .v (.string ⟨#[]⟩),cb false]])) []:=by
 have:=d5u e2k e3k e4k;rw[e1k,e9k]at this;exact this
theorem e5l:ZU prog false XX [Pb.av] [] (.iv (.Z6 8 [[ci 2,ci 1,ci 4,ci 0,cb false,ci 5, .v (.string ⟨#[]⟩),cb true],[ci 1,ci 2,ci 1,ci 0,cb false,ci 5, .v (.string ⟨#[]⟩),cb false]])) []:=by
 have:=d2c e2k e3k e4k;rw[e1k,e0l]at this;exact this
theorem e6l:ZU prog true Ua [Pb.av,vi 1] [] (vi (-1)) []:=by
 have:=b1o e2k (by decide) 1;rw[e1l]at this;exact this
theorem e7l:ZU prog true Tc [] [] (vb true) []:=by
 refine YD l9 (by simp) (by decide) rfl ?_;simp-dsimp[c9t];refine Yk e5l rfl (by rw[EF];simp[d2x,d3x,d4x,e5k,YM,k5]) (by simp[EF]) (by simp) (by simp) ?_
 simp-dsimp;refine Yk e2l rfl (by rw[EF];simp[d2x,d3x,d4x,e5k,YM,k5]) (by simp[EF]) (by simp) (by simp) ?_
 simp-dsimp;refine Yk e3l rfl (by rw[EF];simp[d2x,d3x,d4x,e5k,YM,k5]) (by simp[EF]) (by simp) (by simp) ?_
 simp-dsimp;refine Yk e4l rfl (by rw[EF];simp[d2x,d3x,d4x,e5k,YM,k5]) (by simp[EF]) (by simp) (by simp) ?_
 simp-dsimp;refine Zu e6l (by rw[EF];simp[d2x,d3x,d4x,e5k,YM,k5]) (by simp[EF]) ?_
 simp-dsimp
theorem e8l{h:Hs}(ZY:h.Ok):ZU prog true Ic [h.av] [] (vb (Yp (Y8 h)&&decide ((YV h).length<=14))) []:=by
 refine YD l5 (by simp[Hs.av]) (by decide) rfl ?_;simp-dsimp[c0u,Hs.av];refine Zu (d5r ZY) (by simp[Hs.av]) (by simp[Hs.av]) ?_
 by_cases hs:Y8 h
 ·have YL:Yp (Y8 h)=true:=Rn.2 hs;simp-dsimp[YL];refine Yk (d4V ZY (qA hs)) rfl (by simp[Hs.av]) (by simp[Hs.av]) (by simp) (by simp) ?_;simp-dsimp[Z5];rw[YL,c6T];exact decide_eq_decide.2 ⟨fun g=>by omega,fun g=>by omega⟩
 ·have OW:Yp (Y8 h)=false:=NG.2 hs;simp-dsimp[OW]
def VP(l:List Eg):Prop:=l≠[]/\∀i a b,l[i]? =some a->l[(i+1)%l.length]? =some b->a.to=b.ZX/\a.to∉(l.map Eg.to).take i
def D8(l:List Eg)(i:Nat):Prop:=∀a b,l[i]? =some a->l[(i+1)%l.length]? =some b->a.to=b.ZX/\a.to∉(l.map Eg.to).take i
theorem f4i{l:List Eg}{i:Nat}(ZS:l≠[])(hi:l.length<=i)(h:ZH i (D8 l)):VP l:=
 ⟨ZS,fun k a b ha hb=>h k (by have:=(a7y.1 ha).1;omega) a b ha hb⟩
theorem b0t(i n:Nat):((i:Int)+1).tmod (n:Int)=((i+1)%n:Nat):=by
 rw[Int.tmod_eq_emod_of_nonneg (by omega),Int.natCast_emod,Int.natCast_add];rfl
open Classical in
theorem b1t(l:List Eg)(hl:l.length<2^62):ZU prog true Ub [.iv (Z5 l)] [] (vb (decide (VP l))) []:=by
 refine YD pG (by simp) (by decide) rfl ?_
 by_cases ZS:l=[]
 ·subst ZS
  have:¬VP []:=fun h=>h.1 rfl
  simp-dsimp[a1l,Z5,ZR,this]
 ·have Yy:=a6I.2 ZS
  have Om:¬(l.length:Int)=0:=by omega
  simp-dsimp[a1l,Z5,Om,ZS];refine YZ [] [4] l.length (fun i=>⟨[(3,vi i),(0, .iv (.Z6 8 (ZR l)))],[]⟩) (fun i=>ZH i (D8 l)) ?_ Tn ?_
  ·simp-dsimp
  ·intro i hi hq;simp-dsimp[He];refine⟨fun ZV=>?_,fun X3=>f4i ZS X3 hq⟩;obtain⟨x,hx⟩:=Zw ZV;obtain⟨y,hy⟩:=Zw (l:=l) (i:=(i+1)%l.length) (Nat.mod_lt _ Yy);have hw:=Zo (n:=(i:Int)+1) (by omega);have hm:=b0t i l.length;obtain⟨j,hj⟩:∃j,(i+1)%l.length=j:=⟨_,rfl⟩;rw[hj]at hm hy
   have VE:D8 l i↔x.to=y.ZX/\x.to∉(l.map Eg.to).take i:=by
    constructor
    ·exact fun h=>h x y hx (by rw[hj];exact hy)
    ·intro h a b ha hb;rw[hx]at ha;cases ha;rw[hj,hy]at hb;cases hb;exact h
   have Y6:¬D8 l i->¬VP l:=fun h g=>h (g.2 i)
   by_cases VX:x.to=y.ZX
   ·simp-dsimp[hx,hy,hw,ZS,hm,VX,Eg.cells,Zc];refine⟨by omega,Zu (d:=39) (e2m (l.take i) (by simp;omega) y.ZX) (by simp[Z5,ZR]) (by simp[Z5]) ?_⟩;rw[VX]at VE;rw[c5V]
    cases hmt:decide (y.ZX∈(l.map Eg.to).take i)with
    |true=>
     simp only[decide_eq_true_eq]at hmt;have hnv:=Y6 (by rw[VE];exact fun h=>h.2 hmt);simp-dsimp[hnv]
    |false=>
     simp only[decide_eq_false_iff_not]at hmt;simp-dsimp[hw];exact⟨ZV,hq.succ (VE.2 ⟨rfl,hmt⟩)⟩
   ·have hnv:=Y6 (by rw[VE];exact fun h=>VX h.1);simp-dsimp[hx,hy,hw,ZS,hm,VX,Eg.cells,Zc,hnv]
end Go.Rt
end

section
namespace Go.Rt
open Go.Vm
end Go.Rt
end

section
namespace Go.Rt
def Lh:List Int->Option Int
 | []=>none
 |x::r=>match Lh r with
  |none=>some x
  |some y=>some (if x<=y then x else y)
theorem c2h{l:List Int}:Lh l=none↔l=[]:=by
 cases l with
 |nil=>simp[Lh]
 |cons x r=>simp only[Lh];cases Lh r<;>simp
theorem c3h:∀{l:List Int} {n:Int},Lh l=some n->n∈l/\∀m,m∈l->n<=m
 | [],n,h=>by cases h
 |x::r,n,h=>by
  simp only[Lh]at h
  cases hr:Lh r with
  |none=>
   rw[hr]at h;have:=c2h.1 hr;subst this;cases h;simp
  |some y=>
   rw[hr]at h;obtain⟨h1,h2⟩:=c3h hr;simp only[a5y]at h;subst h;split
   ·rename_i g;refine⟨a8C,fun m hm=>?_⟩
    rcases a2E.1 hm with rfl|hm
    ·omega
    ·have:=h2 m hm;omega
   ·rename_i g;refine⟨a2C _ h1,fun m hm=>?_⟩
    rcases a2E.1 hm with rfl|hm
    ·omega
    ·exact h2 m hm
theorem c4h{l:List Int}{n:Int}(h1:n∈l)(h2:∀m,m∈l->n<=m):Lh l=some n:=by
 cases h:Lh l with
 |none=>rw[c2h.1 h]at h1;cases h1
 |some y=>
  obtain⟨g1,g2⟩:=c3h h;have:=h2 y g1;have:=g2 n h1
  congr 1;omega
theorem c5h{l l':List Int}(h:∀x,x∈l↔x∈l'):Lh l=Lh l':=by
 cases h':Lh l' with
 |none=>
  have:=c2h.1 h';subst this;rw[c2h]
  cases l with
  |nil=>rfl
  |cons a r=>exact absurd ((h a).1 a8C) (by simp)
 |some n=>
  obtain⟨g1,g2⟩:=c3h h'
  exact c4h ((h n).2 g1) fun m hm=>g2 m ((h m).1 hm)
def TU(E:List (Int×Int))(L:List Int)(n:Int):Bool:= !(E.any fun e=>decide (e.2=n/\e.1∈L))
theorem c7h{E:List (Int×Int)}{L:List Int}{n:Int}:TU E L n=true↔∀e,e∈E->e.2=n->e.1∉L:=by
 unfold TU;rw[Bool.not_eq_true',List.any_eq_false];simp only[decide_eq_true_eq,not_and]
theorem c8h{E:List (Int×Int)}{L:List Int}{n:Int}:TU E L n=false↔∃e,e∈E/\e.2=n/\e.1∈L:=by
 unfold TU;rw[Bool.not_eq_false',b4o];simp only[decide_eq_true_eq]
theorem c9h{E:List (Int×Int)}{L L':List Int}(h:∀x,x∈L↔x∈L')(n:Int):TU E L n=TU E L' n:=by
 unfold TU;simp only[h]
def Lg(E:List (Int×Int))(L:List Int):Option Int:=Lh (L.filter (TU E L))
theorem c1i{E:List (Int×Int)}{L:List Int}:Lg E L=none↔∀n,n∈L->TU E L n=false:=by
 unfold Lg;rw[c2h,b0T];simp only[Bool.not_eq_true]
theorem c2i{E:List (Int×Int)}{L:List Int}{n:Int}(h:Lg E L=some n):n∈L/\TU E L n=true/\∀m,m∈L->TU E L m=true->n<=m:=by
 obtain⟨h1,h2⟩:=c3h h;rw[a0F]at h1;exact⟨h1.1,h1.2,fun m hm hf=>h2 m (a0F.2 ⟨hm,hf⟩)⟩
theorem c3i{E:List (Int×Int)}{L:List Int}{n:Int}(h1:n∈L)(h2:TU E L n=true)(h3:∀m,m∈L->TU E L m=true->n<=m):Lg E L=some n:=
 c4h (a0F.2 ⟨h1,h2⟩) fun m hm=>by rw[a0F]at hm;exact h3 m hm.1 hm.2
theorem c4i{E:List (Int×Int)}{L L':List Int}(h:∀x,x∈L↔x∈L'):Lg E L=Lg E L':=
 c5h fun x=>by rw[a0F,a0F,h x,c9h h x]
def I3(E:List (Int×Int)):Nat->List Int->Option (List Int)
 | 0,_=>some []
 |k+1,L=>if L=[]then some []else match Lg E L with
  |none=>none
  |some n=>(I3 E k (L.filter fun x=>decide (x≠n))).map (n:: ·)
theorem c5i{E:List (Int×Int)}:∀k,I3 E k []=some []
 | 0=>rfl
 | _+1=>rfl
theorem c6i{L L':List Int}(h:∀x,x∈L↔x∈L'):L=[]↔L'=[]:=by
 rw[c8L,c8L];simp only[h]
theorem c7i{L:List Int}{n:Int}(h:n∈L):(L.filter fun x=>decide (x≠n)).length<L.length:=by
 rw[List.length_filter_lt_length_iff_exists];exact⟨n,h,by simp⟩
theorem c8i{E:List (Int×Int)}:∀(k k':Nat) {L L':List Int},(∀x,x∈L↔x∈L')->L.length<=k->L'.length<=k'->I3 E k L=I3 E k' L':=by
 intro k
 induction k with
 |zero=>
  intro k' L L' h h1 h2;have:L=[]:=a9U.1 (by omega);subst this;rw[(c6i h).1 rfl];simp only[c5i]
 |succ k ih=>
  intro k' L L' h h1 h2
  by_cases hL:L=[]
  ·subst hL;rw[(c6i h).1 rfl];simp only[c5i]
  ·have hL':L'≠[]:=fun e=>hL ((c6i h).2 e)
   cases k' with
   |zero=>exact absurd (a9U.1 (by omega)) hL'
   |succ k'=>
    simp only[I3,if_neg hL,if_neg hL',c4i h]
    cases hn:Lg E L' with
    |none=>rfl
    |some n=>
     have rU:=(c2i hn).1;have hm:=(h n).2 rU;have:=c7i hm;have:=c7i rU;simp only[];rw[ih k' (L:=L.filter fun x=>decide (x≠n)) (L':=L'.filter fun x=>decide (x≠n)) (fun x=>by rw[a0F,a0F,h x]) (by omega) (by omega)]
def Wt(E:List (Int×Int))(L:List Int):Option (List Int):=I3 E L.length L
theorem c9i{E:List (Int×Int)}:Wt E []=some []:=rfl
theorem c0j{E:List (Int×Int)}{L L':List Int}(h:∀x,x∈L↔x∈L'):Wt E L=Wt E L':=c8i _ _ h (a8F _) (a8F _)
theorem c1j{E:List (Int×Int)}{L:List Int}(hL:L≠[])(h:Lg E L=none):Wt E L=none:=by
 unfold Wt;obtain⟨k,hk⟩:∃k,L.length=k+1:=⟨L.length-1,by have:=a6I.2 hL;omega⟩;rw[hk];simp only[I3,if_neg hL,h]
theorem c2j{E:List (Int×Int)}{L L':List Int}{n:Int}(h:Lg E L=some n)(hL':∀x,x∈L'↔x∈L/\x≠n):Wt E L=(Wt E L').map (n:: ·):=by
 have hm:=(c2i h).1;have hL:=b9Q hm;have hd:=c7i hm;unfold Wt;obtain⟨k,hk⟩:∃k,L.length=k+1:=⟨L.length-1,by have:=a6I.2 hL;omega⟩;rw[hk];simp only[I3,if_neg hL,h];rw[c8i k L'.length (L:=L.filter fun x=>decide (x≠n)) (L':=L') (fun x=>by rw[a0F,hL' x];simp) (by omega) (a8F _)]
theorem c3j{E:List (Int×Int)}:∀(k:Nat) {L:List Int},I3 E k L=none->∃K:List Int,K≠[]/\(∀x,x∈K->x∈L)/\∀n,n∈K->∃e,e∈E/\e.2=n/\e.1∈K:=by
 intro k
 induction k with
 |zero=>intro L h;cases h
 |succ k ih=>
  intro L h;simp only[I3]at h;split at h
  ·cases h
  ·rename_i hL
   cases hn:Lg E L with
   |none=>exact⟨L,hL,fun _ h=>h,fun n hm=>c8h.1 (c1i.1 hn n hm)⟩
   |some n=>
    rw[hn]at h;simp only[Option.map_eq_none_iff]at h;obtain⟨K,h1,h2,h3⟩:=ih h;exact⟨K,h1,fun x hx=>(a0F.1 (h2 x hx)).1,h3⟩
theorem c4j{E:List (Int×Int)}{L:List Int}(h:Wt E L=none):∃K:List Int,K≠[]/\(∀x,x∈K->x∈L)/\∀n,n∈K->∃e,e∈E/\e.2=n/\e.1∈K:=c3j _ h
theorem c5j{E:List (Int×Int)}:∀(k:Nat) {L s:List Int},L.length<=k->I3 E k L=some s->
 (∀x,x∈s↔x∈L)/\s.Nodup/\∀e,e∈E->e.1∈L->e.2∈L->s.idxOf e.1<s.idxOf e.2:=by
 intro k
 induction k with
 |zero=>
  intro L s hk h;have:L=[]:=a9U.1 (by omega);subst this;cases h;simp
 |succ k ih=>
  intro L s hk h;simp only[I3]at h;split at h
  ·rename_i hL;subst hL;cases h;simp
  ·cases hn:Lg E L with
   |none=>rw[hn]at h;cases h
   |some n=>
    rw[hn]at h;simp only[Option.map_eq_some_iff]at h;obtain⟨s',h1,rfl⟩:=h;obtain⟨g1,g2,g3⟩:=c2i hn;have:=c7i g1;obtain⟨i1,i2,i3⟩:=ih (by omega) h1
    have UW:∀x,x∈s'↔x∈L/\x≠n:=fun x=>by rw[i1 x,a0F];simp
    refine⟨fun x=>?_,b0q.2 ⟨fun h=>((UW n).1 h).2 rfl,i2⟩,fun e he ha hb=>?_⟩
    ·rw[a2E,UW]
     by_cases hx:x=n
     ·subst hx;simp[g1]
     ·simp[hx]
    ·have Vk:e.2≠n:=fun h=>c7h.1 g2 e he h ha
     rw[d2C,d2C]
     have f6O:(n==e.2)=false:=by simpa using fun h:n=e.2=>Vk h.symm
     rw[f6O]
     by_cases han:e.1=n
     ·rw[han];simp
     ·have f7O:(n==e.1)=false:=by simpa using fun h:n=e.1=>han h.symm
      rw[f7O];have:=i3 e he (a0F.2 ⟨ha,by simpa using han⟩) (a0F.2 ⟨hb,by simpa using Vk⟩);simpa using this
theorem c6j{E:List (Int×Int)}{L s:List Int}(h:Wt E L=some s):(∀x,x∈s↔x∈L)/\s.Nodup/\∀e,e∈E->e.1∈L->e.2∈L->s.idxOf e.1<s.idxOf e.2:=
 c5j _ (a8F _) h
inductive Uf (G:Gr):Int->Int->Prop
 |refl (a:Int):Uf G a a
 |step {a b c:Int}:NQ G a b->Uf G b c->Uf G a c
section
variable{G:Gr}{s:Nat}
theorem Uf.trans{a b c:Int}(h:Uf G a b)(h2:Uf G b c):Uf G a c:=by
 induction h with
 |refl=>exact h2
 |step h _ ih=>exact .step h (ih h2)
theorem Uf.one{a b:Int}(h:NQ G a b):Uf G a b:= .step h (.refl b)
theorem Uf.closed{a b:Int}(h:Uf G a b){C:List Int}(hC:∀a b,a∈C->NQ G a b->b∈C)(ha:a∈C):b∈C:=by
 induction h with
 |refl=>exact ha
 |step h _ ih=>exact ih (hC _ _ ha h)
theorem Way.snoc{d:Nat}{p:List Nat}{k:Nat}(h:Way G s (d+1) (p++[k])):Way G s d p/\G.ok k=true/\k<G.m/\G.F k=nd G p:=by
 have hl:=h.len;simp only[a7J,c9E]at hl
 have hp:p≠[]:=fun e=>by rw[e]at hl;simp at hl
 refine⟨⟨by omega,fun x hx=>h.Xq x (a6O _ hx),?_,?_,?_,?_⟩,?_,h.Xq k (by simp),?_⟩
 ·have:=h.nodup;rw[a6M]at this;exact(b5m.1 this).1
 ·have:=h.head
  cases p with
  |nil=>exact absurd rfl hp
  |cons a r=>exact this
 ·intro x hx;refine h.ok x ?_;rw[c6S hp];exact a6O _ hx
 ·intro i a b ha hb;exact h.step i a b (by rw[a1N (a7y.1 ha).1];exact ha) (by rw[a1N (a7y.1 hb).1];exact hb)
 ·refine h.ok k ?_;rw[c6S hp];simp
 ·have h1:(p++[k])[d]? =some (IH p):=by
   rw[a1N (by omega)];unfold IH;rw[List.getLast?_eq_getElem?,show p.length-1=d by omega]
   cases hd:p[d]? with
   |none=>rw[List.getElem?_eq_none_iff]at hd;omega
   |some x=>rfl
  exact h.step d (IH p) k h1 (by rw[List.getElem?_append_right (by omega),show d+1-p.length=0 by omega];rfl)
theorem Way.reach:∀{d:Nat} {p:List Nat},Way G s d p->Uf G (G.T s) (nd G p)
 | 0,p,h=>by
  have hl:=h.len;have hh:=h.head;obtain⟨a,rfl⟩:∃a,p=[a]:=List.length_eq_one_iff.1 (by omega);cases hh;exact .refl _
 |d+1,p,h=>by
  have hl:=h.len
  have hp:p≠[]:=fun e=>by rw[e]at hl;simp at hl
  obtain⟨q,k,rfl⟩:∃q k,p=q++[k]:=⟨p.dropLast,p.getLast hp,(List.dropLast_concat_getLast hp).symm⟩;obtain⟨h1,h2,h3,h4⟩:=h.snoc;have:=h1.reach;rw[Qj];exact this.trans (.one ⟨k,h3,h2,h4,rfl⟩)
theorem a9x(hs:s<G.m):XG G s≠[]↔Uf G (G.T s) (G.F s):=by
 constructor
 ·intro h;obtain⟨D,h1,h2⟩:=qC hs h;rw[<-h2];exact h1.reach
 ·intro h hc;obtain⟨C,h1,h2,h3⟩:=b0N hs hc;exact h2 (h.closed h3 h1)
theorem Uf.f1g{f:Int->Int}(hf:∀a b,NQ G a b->f a<f b){a b:Int}(h:Uf G a b):f a<=f b:=by
 induction h with
 |refl=>exact Int.le_refl _
 |step h _ ih=>have:=hf _ _ h;omega
theorem a0y{f:Int->Int}(hf:∀a b,NQ G a b->f a<f b)(hs:s<G.m)(ho:G.ok s=true):XG G s=[]:=a9M fun h=>by
 have h1:=((a9x hs).1 h).f1g hf;have h2:=hf (G.F s) (G.T s) ⟨s,hs,ho,rfl,rfl⟩;omega
theorem a1y{K:List Int}(hK:K≠[])(h:∀n,n∈K->∃a,a∈K/\NQ G a n):∃s,s<G.m/\G.ok s=true/\XG G s≠[]:=a9M fun Y6=>by
 have f6L:∀a b,NQ G a b->¬Uf G b a:=fun a b ⟨k,h1,h2,h3,h4⟩ hr=>Y6 ⟨k,h1,h2,(a9x h1).2 (by rw[h3,h4];exact hr)⟩
 have key:∀j:Nat,∃(a:Int) (R:List Int),(a::R).length=j+1/\(a::R).Nodup/\(∀x,x∈a::R->x∈K)/\∀x,x∈a::R->Uf G a x:=by
  intro j
  induction j with
  |zero=>
   obtain⟨a,ha⟩:=List.exists_mem_of_ne_nil K hK;refine⟨a,[],rfl,by simp,fun x hx=>?_,fun x hx=>?_⟩
   ·rw[a2z.1 hx];exact ha
   ·rw[a2z.1 hx];exact .refl a
  |succ j ih=>
   obtain⟨a,R,h1,h2,h3,h4⟩:=ih;obtain⟨b,hb,hba⟩:=h a (h3 a a8C);refine⟨b,a::R,by rw[a3O,h1],b0q.2 ⟨fun hm=>f6L b a hba (h4 b hm),h2⟩,fun x hx=>?_,fun x hx=>?_⟩
   ·rcases a2E.1 hx with rfl|hx
    ·exact hb
    ·exact h3 x hx
   ·rcases a2E.1 hx with rfl|hx
    ·exact .refl _
    ·exact .step hba (h4 x hx)
 obtain⟨a,R,h1,h2,h3,_⟩:=key K.length;have:=c3z h2 h3;omega
end
end Go.Rt
end

section
namespace Go.Rt
open Go.Vm
section
variable{l:List Eg}{ok:Eg->Bool}
theorem c4J{s:Nat}(hs:s<l.length):∀k,k∈XG (ZZ l ok) s->k<l.length:=by
 intro k hk
 by_cases h:XG (ZZ l ok) s=[]
 ·rw[h]at hk;cases hk
 ·obtain⟨D,hw,_⟩:=qC (G:=ZZ l ok) hs h;exact hw.Xq k hk
theorem c5J{first:Nat->Bool}:∀k,k∈JE (ZZ l ok) first->k<l.length:=by
 intro k hk;obtain⟨i,h1,h2,h3,_⟩:=b1O (b9Q hk);rw[h3]at hk;exact c4J h1 k hk
theorem c6J{fs rs:List Int}:ZL l fs rs≠[]↔JE (ZZ l (Zg rs)) (Wg l fs)≠[]:=by
 have:=Jm (l:=l) (p:=JE (ZZ l (Zg rs)) (Wg l fs)) c5J;unfold ZL;rw[<-a6I, <-a6I,this]
theorem Je{a b:Int}:NQ (ZZ l ok) a b↔∃e,e∈l/\ok e=true/\e.ZX=a/\e.to=b:=by
 constructor
 ·rintro⟨k,h1,h2,h3,h4⟩;obtain⟨e,he⟩:=Zw (l:=l) h1;rw[qv he]at h2;rw[TC he]at h3;rw[Ud he]at h4;exact⟨e,a8y he,h2,h3,h4⟩
 ·rintro⟨e,h1,h2,h3,h4⟩;obtain⟨k,he⟩:=a9B h1;exact⟨k,(a7y.1 he).1,by rw[qv he];exact h2,by rw[TC he];exact h3,by rw[Ud he];exact h4⟩
theorem c8J{fs:List Int}{i:Nat}{e:Eg}(he:l[i]? =some e):Wg l fs i=Zg fs e:=by simp[Wg,he]
theorem E3{fs rs:List Int}:ZL l fs rs≠[]↔∃e,e∈l/\Zg fs e=true/\Uf (ZZ l (Zg rs)) e.to e.ZX:=by
 rw[c6J];constructor
 ·intro h;obtain⟨i,h1,h2,_,h4,_⟩:=b1O h;obtain⟨e,he⟩:=Zw (l:=l) h1;have:=(a9x h1).1 h4;rw[Ud he,TC he]at this;exact⟨e,a8y he,by rw[<-c8J he];exact h2,this⟩
 ·rintro⟨e,h1,h2,h3⟩ h;obtain⟨i,he⟩:=a9B h1;have hi:i<(ZZ l (Zg rs)).m:=(a7y.1 he).1;refine(a9x hi).2 ?_ (b2O h hi (by rw[c8J he];exact h2));rw[Ud he,TC he];exact h3
theorem c0K{α:Type}{l:List α}(h:l.Nodup){i:Nat}{x:α}(hx:l[i]? =some x):x∉l.take i:=by
 intro hm;obtain⟨j,hj⟩:=a9B hm;have hj1:=(a7y.1 hj).1;rw[a7S]at hj1;rw[List.getElem?_take_of_lt (by omega)]at hj;obtain⟨a1,a2⟩:=a7y.1 hx;obtain⟨b1,b2⟩:=a7y.1 hj;have:=(d7v (xs:=l) (h₀:=b1) (h₁:=a1) h).1 (by rw[a2,b2]);omega
theorem c1K{s:Nat}(hs:s<l.length)(h:XG (ZZ l ok) s≠[]):VP (pick l (XG (ZZ l ok) s)):=by
 obtain⟨D,hw,hn⟩:=qC (G:=ZZ l ok) hs h;generalize XG (ZZ l ok) s=p at*;have Yq:∀k,k∈p->k<l.length:=hw.Xq;have UN:=Jm Yq;have hto:=a6C (ok:=ok) Yq;have Yy:=a6I.2 h;refine⟨fun e=>by rw[e]at UN;simp only[c4n]at UN;omega,fun i a b ha hb=>⟨?_,?_⟩⟩
 ·have Zb:=(a7y.1 ha).1;rw[UN]at Zb hb;rw[a5C Yq]at ha hb;obtain⟨x,hx,hxa⟩:=b2q.1 ha;obtain⟨y,hy,hyb⟩:=b2q.1 hb;rw[<-Ud (ok:=ok) hxa, <-TC (ok:=ok) hyb]
  by_cases hi:i+1<p.length
  ·rw[Nat.mod_eq_of_lt hi]at hy;exact(hw.step i x y hx hy).symm
  ·have Vp:i+1=p.length:=by omega
   rw[Vp,Nat.mod_self]at hy;have h0:=hw.head;rw[List.head?_eq_getElem?,hy]at h0;cases h0;rw[<-hn];unfold nd IH;rw[List.getLast?_eq_getElem?,show p.length-1=i by omega,hx];rfl
 ·rw[hto];have WA:=hw.nodup;refine c0K WA ?_;rw[<-hto,a0C,ha];rfl
theorem c2K{fs rs:List Int}(h:ZL l fs rs≠[]):VP (ZL l fs rs)/\(∀e,e∈ZL l fs rs->e∈l)/\(∃e,(ZL l fs rs)[0]? =some e/\Zg fs e=true)/\∀i e,(ZL l fs rs)[i+1]? =some e->Zg rs e=true:=by
 obtain⟨s,h1,h2,h3,h4,_⟩:=b1O (c6J.1 h);have Ra:s<l.length:=h1
 have hf:ZL l fs rs=pick l (XG (ZZ l (Zg rs)) s):=by unfold ZL;rw[h3]
 rw[hf];obtain⟨e,he⟩:=Zw (l:=l) Ra;refine⟨c1K Ra h4,fun x hx=>?_,⟨e,by rw[c8a he h4];rfl,by rw[<-c8J he];exact h2⟩,fun i x hx=>?_⟩
 ·unfold pick at hx;obtain⟨k,_,hk⟩:=List.mem_filterMap.1 hx;exact a8y hk
 ·obtain⟨D,hw,_⟩:=qC (G:=ZZ l (Zg rs)) h1 h4;rw[a5C hw.Xq]at hx;obtain⟨k,hk,hkx⟩:=b2q.1 hx;rw[<-qv (ok:=Zg rs) hkx];refine hw.ok k ?_;refine a8y (i:=i) ?_;rw[c7J];exact hk
end
def UC(l:List Eg):List (Int×Int):=l.map fun e=>(e.ZX,e.to)
theorem c0t{l:List Int}(h:l.Nodup){k:Nat}{n:Int}(hk:l[k]? =some n)(x:Int):x∈l.eraseIdx k↔x∈l/\x≠n:=by
 rw[List.mem_eraseIdx_iff_getElem?];constructor
 ·rintro⟨i,hi,hx⟩;refine⟨a8y hx,?_⟩;rintro rfl;obtain⟨h1,h2⟩:=a7y.1 hk;obtain⟨h3,h4⟩:=a7y.1 hx;exact hi ((d7v (xs:=l) (h₀:=h3) (h₁:=h1) h).1 (by rw[h2,h4]))
 ·rintro⟨hx,ZS⟩;obtain⟨i,hi⟩:=a9B hx;refine⟨i,?_,hi⟩;rintro rfl;rw[hk]at hi;cases hi;exact ZS rfl
def f3g(l:List Eg)(row:List Int):AV:= .Zp [.iv (XJ ((Wt (UC l) row).getD [])),vb (Wt (UC l) row).isSome]
def YF:List Int:=[1,2,3,4,5]
def Hj(l:List Eg)(row:List Int):List Eg:=(l.filter fun e=>decide (e.ZX∈row/\e.to∈row)).map fun e=>{e with kind:=1}
theorem c2S{l:List Eg}{row:List Int}{a b:Int}:NQ (ZZ (Hj l row) (Zg YF)) a b↔∃e,e∈l/\e.ZX=a/\e.to=b/\a∈row/\b∈row:=by
 rw[Je];constructor
 ·rintro⟨e,h1,_,h3,h4⟩;obtain⟨x,hx,rfl⟩:=a3E.1 h1;rw[a0F,decide_eq_true_eq]at hx;simp only at h3 h4;subst h3 h4;exact⟨x,hx.1,rfl,rfl,hx.2.1,hx.2.2⟩
 ·rintro⟨e,h1,rfl,rfl,h4,h5⟩;exact⟨{e with kind:=1},a3E.2 ⟨e,a0F.2 ⟨h1,by simpa using⟨h4,h5⟩⟩,rfl⟩,by simp[Zg,YF],rfl,rfl⟩
theorem c3S{l:List Eg}{p:Int×Int}:p∈UC l↔∃e,e∈l/\e.ZX=p.1/\e.to=p.2:=by
 unfold UC;rw[a3E];constructor
 ·rintro⟨e,h,rfl⟩;exact⟨e,h,rfl,rfl⟩
 ·rintro⟨e,h,h1,h2⟩;exact⟨e,h,by rw[h1,h2]⟩
theorem c4S{l:List Eg}(hk:∀e,e∈l->Zg YF e=true):ZL l YF YF≠[]↔∃s,s<(ZZ l (Zg YF)).m/\(ZZ l (Zg YF)).ok s=true/\XG (ZZ l (Zg YF)) s≠[]:=by
 rw[E3];constructor
 ·rintro⟨e,h1,h2,h3⟩;obtain⟨i,he⟩:=a9B h1;have hi:i<(ZZ l (Zg YF)).m:=(a7y.1 he).1;exact⟨i,hi,by rw[qv he];exact h2,(a9x hi).2 (by rw[Ud he,TC he];exact h3)⟩
 ·rintro⟨i,h1,h2,h3⟩;obtain⟨e,he⟩:=Zw (l:=l) h1;have:=(a9x h1).1 h3;rw[Ud he,TC he]at this;exact⟨e,a8y he,hk e (a8y he),this⟩
theorem c5S(l:List Eg)(row:List Int):(Wt (UC l) row).isSome=decide (ZL (Hj l row) YF YF=[]):=by
 have hk:∀e,e∈Hj l row->Zg YF e=true:=fun e he=>by
  obtain⟨x,_,rfl⟩:=a3E.1 he;simp[Zg,YF]
 cases h:Wt (UC l) row with
 |none=>
  obtain⟨K,h1,h2,h3⟩:=c4j h
  have hc:ZL (Hj l row) YF YF≠[]:=by
   rw[c4S hk]
   refine a1y h1 fun n hn=>?_
   obtain⟨p,hp,h4,h5⟩:=h3 n hn;obtain⟨e,he,e1,e2⟩:=c3S.1 hp;exact⟨p.1,h5,c2S.2 ⟨e,he,e1,e2.trans h4,h2 _ h5,h2 n hn⟩⟩
  simp[hc]
 |some s=>
  obtain⟨h1,h2,h3⟩:=c6j h
  have hc:ZL (Hj l row) YF YF=[]:=a9M fun hc=>by
   rw[<-ne_eq,c4S hk]at hc;obtain⟨i,g1,g2,g3⟩:=hc;refine g3 (a0y (f:=fun x=>(s.idxOf x:Int)) (fun a b Nv=>?_) g1 g2);obtain⟨e,he,rfl,rfl,ha,hb⟩:=c2S.1 Nv;have:=h3 (e.ZX,e.to) (c3S.2 ⟨e,he,rfl,rfl⟩) ha hb;simpa using this
  simp[hc]
theorem b8l{l l':List Eg}{ok ok':Eg->Bool}(h:∀e,e∈l->ok e=true->e∈l'/\ok' e=true){a b:Int}(hr:Uf (ZZ l ok) a b):Uf (ZZ l' ok') a b:=by
 induction hr with
 |refl a=>exact .refl a
 |step h1 _ ih=>
  obtain⟨e,g1,g2,g3,g4⟩:=Je.1 h1;obtain⟨q1,q2⟩:=h e g1 g2;exact .step (Je.2 ⟨e,q1,q2,g3,g4⟩) ih
theorem Jd{ks:List Int}{e:Eg}:Zg ks e=true↔e.kind∈ks:=by simp[Zg]
theorem b0m{l l':List Eg}{fs rs fs' rs':List Int}(h1:∀e,e∈l->e∈l')(hf:∀k,k∈fs->k∈fs')(hr:∀k,k∈rs->k∈rs')(h:ZL l fs rs≠[]):ZL l' fs' rs'≠[]:=by
 obtain⟨e,g1,g2,g3⟩:=E3.1 h;exact E3.2 ⟨e,h1 e g1,Jd.2 (hf _ (Jd.1 g2)),b8l (fun x hx hk=>⟨h1 x hx,Jd.2 (hr _ (Jd.1 hk))⟩) g3⟩
abbrev Hk:List Int:=[1,2,3]
abbrev rP:List Int:=[4,5]
theorem b1m{l:List Eg}(hk:∀e,e∈l->1<=e.kind/\e.kind<=5){a b:Int}(hr:Uf (ZZ l (Zg YF)) a b):
 Uf (ZZ l (Zg Hk)) a b\/∃x,x∈l/\x.kind∈rP/\Uf (ZZ l (Zg YF)) a x.ZX/\Uf (ZZ l (Zg YF)) x.to b:=by
 induction hr with
 |refl a=>exact .inl (.refl a)
 |step h1 h2 ih=>
  obtain⟨e,g1,g2,g3,g4⟩:=Je.1 h1;obtain⟨k1,k2⟩:=hk e g1
  by_cases h3:e.kind<=3
  ·rcases ih with ih|⟨x,q1,q2,q3,q4⟩
   ·exact .inl (.step (Je.2 ⟨e,g1,Jd.2 (by simp;omega),g3,g4⟩) ih)
   ·exact .inr ⟨x,q1,q2, .step h1 q3,q4⟩
  ·refine .inr ⟨e,g1,by simp;omega,?_,?_⟩
   ·rw[g3];exact .refl _
   ·rw[g4];exact h2
theorem b2m{l:List Eg}(hk:∀e,e∈l->1<=e.kind/\e.kind<=5):ZL l YF YF≠[]↔ZL l Hk Hk≠[]\/ZL l rP YF≠[]:=by
 constructor
 ·intro h;obtain⟨e,g1,g2,g3⟩:=E3.1 h;obtain⟨k1,k2⟩:=hk e g1
  rcases b1m hk g3 with h3|⟨x,q1,q2,q3,q4⟩
  ·by_cases h4:e.kind<=3
   ·exact .inl (E3.2 ⟨e,g1,Jd.2 (by simp;omega),h3⟩)
   ·exact .inr (E3.2 ⟨e,g1,Jd.2 (by simp;omega),g3⟩)
  ·exact .inr (E3.2 ⟨x,q1,Jd.2 q2,q4.trans (.step (Je.2 ⟨e,g1,Jd.2 (by simp[YF];omega),rfl,rfl⟩) q3)⟩)
 ·rintro(h|h)
  ·exact b0m (fun _ h=>h) (fun k hk=>by simp[YF]at hk⊢;omega) (fun k hk=>by simp[YF]at hk⊢;omega) h
  ·exact b0m (fun _ h=>h) (fun k hk=>by simp[YF]at hk⊢;omega) (fun k hk=>hk) h
theorem b3m{l:List Eg}{row:List Int}(hk:∀e,e∈l->1<=e.kind/\e.kind<=5)(hr:∀e,e∈l->e.ZX∈row/\e.to∈row):ZL (Hj l row) YF YF=[]↔ZL l YF YF=[]:=by
 have Ee:∀a b,NQ (ZZ (Hj l row) (Zg YF)) a b↔NQ (ZZ l (Zg YF)) a b:=fun a b=>by
  rw[c2S,Je];constructor
  ·rintro⟨e,h1,h2,h3,_⟩;exact⟨e,h1,Jd.2 (by have:=hk e h1;simp[YF];omega),h2,h3⟩
  ·rintro⟨e,h1,_,h2,h3⟩;exact⟨e,h1,h2,h3,h2▸(hr e h1).1,h3▸(hr e h1).2⟩
 have hrc:∀a b,Uf (ZZ (Hj l row) (Zg YF)) a b↔Uf (ZZ l (Zg YF)) a b:=fun a b=>by
  constructor
  ·intro h
   induction h with
   |refl a=>exact .refl a
   |step h1 _ ih=>exact .step ((Ee _ _).1 h1) ih
  ·intro h
   induction h with
   |refl a=>exact .refl a
   |step h1 _ ih=>exact .step ((Ee _ _).2 h1) ih
 have Ed:(∃e,e∈Hj l row/\Zg YF e=true/\Uf (ZZ (Hj l row) (Zg YF)) e.to e.ZX)↔∃e,e∈l/\Zg YF e=true/\Uf (ZZ l (Zg YF)) e.to e.ZX:=by
  constructor
  ·rintro⟨e,h1,h2,h3⟩;obtain⟨x,q1,q2,q3,q4⟩:=Je.1 ((Ee _ _).1 (Je.2 ⟨e,h1,h2,rfl,rfl⟩));exact⟨x,q1,q2,by rw[q3,q4];exact(hrc _ _).1 h3⟩
  ·rintro⟨e,h1,h2,h3⟩;obtain⟨x,q1,q2,q3,q4⟩:=Je.1 ((Ee _ _).2 (Je.2 ⟨e,h1,h2,rfl,rfl⟩));exact⟨x,q1,q2,by rw[q3,q4];exact(hrc _ _).2 h3⟩
 have:=(E3 (l:=Hj l row) (fs:=YF) (rs:=YF)).trans (Ed.trans (E3 (l:=l) (fs:=YF) (rs:=YF)).symm);exact⟨fun h=>a9M fun g=>this.2 g h,fun h=>a9M fun g=>this.1 g h⟩
theorem b4m{l:List Eg}(h:∀e,e∈l->e.ZX<e.to)(fs rs:List Int):ZL l fs rs=[]:=a9M fun hc=>by
 obtain⟨e,g1,_,g3⟩:=E3.1 hc
 have:=Uf.f1g (f:=id) (fun a b Nv=>by
  obtain⟨x,q1,_,q3,q4⟩:=Je.1 Nv;have:=h x q1;rw[q3,q4]at this
  exact this) g3
 have:=h e g1;simp only[id]at*;omega
structure JJ (es:List Eg) (i:Nat) (c:List Eg):Prop where
 vp:c≠[]->VP c
 Xq:∀(k:Nat) (x:Eg),c[k]? =some x->x∈es
 On:i<2->∀(k:Nat) (x:Eg),c[k]? =some x->x.kind≠4/\x.kind≠5
 ww:i=0->∀(k:Nat) (x:Eg),c[k]? =some x->x.kind=1
 cur:i=2->∀(k:Nat) (x c0:Eg),c[k]? =some x->c[0]? =some c0->x.key=c0.key/\x.table=c0.table/\(k=0->x.ZN=true)/\(k=0↔x.kind=4)
 item:i=3->∀c0:Eg,c[0]? =some c0->c0.kind=4
 g2:i=4->∀c0:Eg,c[0]? =some c0->c0.kind=4\/c0.kind=5
theorem Ec{l:List Eg}{fs rs:List Int}{k:Nat}{x:Eg}(h:(ZL l fs rs)[k]? =some x):x∈l/\(k=0->x.kind∈fs)/\(0<k->x.kind∈rs):=by
 obtain⟨_,h2,⟨e,h3,h4⟩,h5⟩:=c2K (b9Q (a8y h));refine⟨h2 x (a8y h),fun hk=>?_,fun hk=>?_⟩
 ·subst hk;rw[h3]at h;cases h;exact Jd.1 h4
 ·obtain⟨j,rfl⟩:∃j,k=j+1:=⟨k-1,by omega⟩;exact Jd.1 (h5 j x h)
theorem b6m{l:List Eg}{fs rs:List Int}{k:Nat}{x:Eg}(h:(ZL l fs rs)[k]? =some x):x.kind∈fs\/x.kind∈rs:=by
 have:=Ec h
 rcases b5j k with g|g
 ·exact .inl (this.2.1 g)
 ·exact .inr (this.2.2 g)
theorem b7m{l:List Eg}{fs rs:List Int}(h:ZL l fs rs≠[]):VP (ZL l fs rs):=(c2K h).1
theorem f7M(es:List Eg):JJ es 0 (ZL es [1] [1]) where
 vp:=b7m
 Xq:=fun k x h=>(Ec h).1
 On:=fun _ k x h=>by have:=b6m h;simp at this;omega
 ww:=fun _ k x h=>by have:=b6m h;simpa using this
 cur:=fun h=>by cases h
 item:=fun h=>by cases h
 g2:=fun h=>by cases h
theorem f8M(es:List Eg):JJ es 1 (ZL es [1,2,3] [1,2,3]) where
 vp:=b7m
 Xq:=fun k x h=>(Ec h).1
 On:=fun _ k x h=>by have:=b6m h;simp at this;omega
 ww:=fun h=>by cases h
 cur:=fun h=>by cases h
 item:=fun h=>by cases h
 g2:=fun h=>by cases h
theorem f9M(es:List Eg):JJ es 3 (ZL es [4] [1,2,3,4,5]) where
 vp:=b7m
 Xq:=fun k x h=>(Ec h).1
 On:=fun h=>by omega
 ww:=fun h=>by cases h
 cur:=fun h=>by cases h
 item:=fun _ c0 h=>by have:=(Ec h).2.1 rfl;simpa using this
 g2:=fun h=>by cases h
theorem f0N(es:List Eg):JJ es 4 (ZL es [4,5] [1,2,3,4,5]) where
 vp:=b7m
 Xq:=fun k x h=>(Ec h).1
 On:=fun h=>by omega
 ww:=fun h=>by cases h
 cur:=fun h=>by cases h
 item:=fun h=>by cases h
 g2:=fun _ c0 h=>by have:=(Ec h).2.1 rfl;simpa using this
theorem b8m{es:List Eg}{e x:Eg}(h:x∈W9 es e):x∈es/\(x=e\/(x.kind=1/\x.table=e.table/\x.key=e.key)):=by
 have:=a0F.1 h;simpa[Wh,and_assoc]using this
theorem f1N(es:List Eg):JJ es 2 (Xb es es):=by
 by_cases ZS:Xb es es=[]
 ·rw[ZS];exact⟨fun h=>absurd rfl h,by simp,by simp,by simp,by simp,by simp,by simp⟩
 ·obtain⟨e,h1,h2,h3⟩:=c9s ZS;rw[h3];simp only[Xe,a4C,decide_eq_true_eq]at h2;obtain⟨⟨k4,Nu⟩,_⟩:=h2
  have hx:∀(k:Nat) (x:Eg),(ZL (W9 es e) [4] [1])[k]? =some x->x.key=e.key/\x.table=e.table/\(k=0->x.ZN=true)/\(k=0↔x.kind=4):=fun k x hk=>by
   obtain⟨q1,q2,q3⟩:=Ec hk;obtain⟨_,q4⟩:=b8m q1
   rcases b5j k with g|g
   ·have hk4:x.kind=4:=by simpa using q2 g
    have NP:x=e:=q4.resolve_right fun r=>by omega
    subst NP;exact⟨rfl,rfl,fun _=>Nu,⟨fun _=>hk4,fun _=>g⟩⟩
   ·have Xm:x.kind=1:=by simpa using q3 g
    have:=q4.resolve_left fun r=>by rw[r]at Xm;omega
    exact⟨this.2.2,this.2.1,fun r=>by omega,⟨fun r=>by omega,fun r=>by omega⟩⟩
  refine⟨b7m,fun k x hk=>(b8m (Ec hk).1).1,fun h=>by omega,fun h=>(by cases h),fun _ k x c0 hk h0=>?_,fun h=>(by cases h),fun h=>(by cases h)⟩;obtain⟨a1,a2,a3,a4⟩:=hx k x hk;obtain⟨b1,b2,_⟩:=hx 0 c0 h0;exact⟨by rw[a1,b1],by rw[a2,b2],a3,a4⟩
theorem b9m{es:List Eg}(h:ZL es [1] [1]≠[]):ZL es [1,2,3] [1,2,3]≠[]:=b0m (fun _ h=>h) (fun k hk=>by simp at hk⊢;omega) (fun k hk=>by simp at hk⊢;omega) h
theorem b0n{es:List Eg}(h:Xb es es≠[]):ZL es [4] [1,2,3,4,5]≠[]:=by
 obtain⟨e,h1,h2,h3⟩:=c9s h;rw[h3]at h;exact b0m (fun x hx=>(b8m hx).1) (fun k hk=>hk) (fun k hk=>by simp at hk⊢;omega) h
theorem b1n{es:List Eg}(h:ZL es [4] [1,2,3,4,5]≠[]):ZL es [4,5] [1,2,3,4,5]≠[]:=b0m (fun _ h=>h) (fun k hk=>by simp at hk⊢;omega) (fun k hk=>hk) h
theorem b2n{es:List Eg}{row:List Int}(hk:∀e,e∈es->1<=e.kind/\e.kind<=5)(hr:∀e,e∈es->e.ZX∈row/\e.to∈row):
 (Wt (UC es) row).isSome=(decide (ZL es [1,2,3] [1,2,3]=[])&&decide (ZL es [4,5] [1,2,3,4,5]=[])):=by
 rw[c5S,b3S,a4C,decide_eq_true_eq,decide_eq_true_eq,decide_eq_true_eq,b3m hk hr];have:=b2m hk;constructor
 ·intro h;exact⟨a9M fun g=>this.2 (.inl g) h,a9M fun g=>this.2 (.inr g) h⟩
 ·rintro⟨h1,h2⟩
  refine a9M fun g=>?_
  rcases this.1 g with q|q
  ·exact q h1
  ·exact q h2
theorem Eb{l:List Eg}{fs rs:List Int}:(ZL l fs rs).length<=l.length:=by
 by_cases h:ZL l fs rs=[]
 ·rw[h];simp
 ·obtain⟨s,h1,h2,h3,h4,_⟩:=b1O (c6J.1 h)
  have hf:ZL l fs rs=pick l (XG (ZZ l (Zg rs)) s):=by unfold ZL;rw[h3]
  obtain⟨D,hw,_⟩:=qC h1 h4;rw[hf,Jm hw.Xq,hw.len];exact hw.lt
theorem b4n{es:List Eg}:(Xb es es).length<=es.length:=by
 by_cases h:Xb es es=[]
 ·rw[h];simp
 ·obtain⟨e,_,_,h3⟩:=c9s h;rw[h3];exact Nat.le_trans Eb (b9b _ _)
end Go.Rt
end

section
namespace Go.Vm
def pn:Operand->Operand->Bool
 | .tmp a, .tmp b=>a==b
 | _,_=>false
def G5:List Operand->List Operand->Bool
 | [],[]=>true
 |a::r,b::q=>pn a b&&G5 r q
 | _,_=>false
def eqN:Option Nat->Option Nat->Bool
 |none,none=>true
 |some a,some b=>a==b
 | _,_=>false
def eqR:Wu->Wu->Bool
 | .ld x n, .ld y m=>pn x y&&eqN n m
 | .call f xs, .call g ys=>d5d f g&&G5 xs ys
 | .fa n x, .fa m y=>n==m&&pn x y
 | .Td x, .Td y=>pn x y
 | .Yz x xs, .Yz y ys=>pn x y&&G5 xs ys
 | _,_=>false
theorem b0x{a b:Operand}(h:pn a b=true):a=b:=by
 cases a<;>cases b<;>simp_all[pn]
theorem b1x:∀{a b:List Operand},G5 a b=true->a=b
 | [],[],_=>rfl
 |a::r,b::q,h=>by
  simp only[G5,a4C]at h;rw[b0x h.1,b1x h.2]
 | [],b::q,h=>by cases h
 |a::r,[],h=>by cases h
theorem b2x{a b:Option Nat}(h:eqN a b=true):a=b:=by
 cases a<;>cases b<;>simp_all[eqN]
theorem b3x{a b:Wu}(h:eqR a b=true):a=b:=by
 unfold eqR at h;split at h
 ·rw[a4C]at h;rw[b0x h.1,b2x h.2]
 ·rw[a4C]at h;rw[c2C h.1,b1x h.2]
 ·rw[a4C]at h;rw[eq_of_beq h.1,b0x h.2]
 ·rw[b0x h]
 ·rw[a4C]at h;rw[b0x h.1,b1x h.2]
 ·cases h
abbrev OpQ:=Nat×Wu×List Nat
def f2j(ops:List OpQ)(d:Nat)(r:Wu)(S:List Nat):Bool:=ops.any fun q=>d5d q.1 d&&eqR q.2.1 r&&q.2.2.all fun t=>S.contains t
def Od(ops:List OpQ)(fd:Nat)(fr:Wu):VT->List Nat->Bool
 | .done,_=>false
 | .alt a b,S=>Od ops fd fr a S&&Od ops fd fr b S
 | .op o t,S=>match o.d,o.g with
  |some d,none=>if d5d d fd then eqR o.r fr&&ops.all fun q=>S.contains q.1 else f2j ops d o.r S&&Od ops fd fr t (d::S)
  | _,_=>false
def D2(fd:Nat):VT->List VT
 | .done=>[]
 | .alt a b=>D2 fd a++D2 fd b
 | .op o t=>match o.d with
  |some d=>if d5d d fd then[t]else D2 fd t
  |none=>[]
structure EW (s0:St) (F:Nat->AV) (S:List Nat) (s:St):Prop where
 hp:s.hp=s0.hp
 fr:∀t,s.get t=if S.contains t then F t else s0.get t
theorem EW.set{s0 s:St}{F:Nat->AV}{S:List Nat}(h:EW s0 F S s)(d:Nat):EW s0 F (d::S) (s.set d (F d)):=by
 refine⟨h.hp,fun t=>?_⟩;rw[St.Xd,h.fr t]
 by_cases e:d=t
 ·subst e;simp
 ·rw[if_neg e]
  have:(d::S).contains t=S.contains t:=by simp[c6F,Ne.symm e]
  rw[this]
def b5x(F:Nat->AV)(S:List Nat)(s0:St):St:=⟨S.map (fun t=>(t,F t))++s0.fr,s0.hp⟩
theorem b6x{F:Nat->AV}{fr:List (Nat×AV)}:∀(S:List Nat) (t:Nat),look (S.map (fun t=>(t,F t))++fr) t=if S.contains t then some (F t)else look fr t
 | [],t=>by simp
 |d::S,t=>by
  simp only[a0G,List.cons_append,look]
  by_cases e:d=t
  ·subst e;simp
  ·rw[if_neg e,b6x S t]
   have:(d::S).contains t=S.contains t:=by simp[c6F,Ne.symm e]
   rw[this]
theorem EW.le{s0 s:St}{F:Nat->AV}{S:List Nat}(h:EW s0 F S s)(S':List Nat)(hS:∀t,S'.contains t=true->S.contains t=true)(h0:∀t,S.contains t=true->S'.contains t=false->s0.get t= .junk):Le s (b5x F S' s0):=by
 obtain⟨fr,hp⟩:=s;have hh:=h.hp;simp only at hh;subst hh;rintro E n a w ⟨ψ,k⟩;refine⟨ψ,{k with size:=k.size,frame:=fun t=>?_,defers:=k.defers,YH:=k.YH,inj:=k.inj,own:=k.own,Y0:=k.Y0,par:=k.par,old:=k.old,grow:=k.grow,same:=k.same}⟩;have hk:=k.frame t;rw[h.fr t]at hk
 have:(b5x F S' s0).get t=if S'.contains t then F t else s0.get t:=by
  simp only[b5x,St.get,b6x]
  by_cases e:S'.contains t=true
  ·rw[if_pos e,if_pos e];rfl
  ·rw[if_neg e,if_neg e]
 rw[this]
 by_cases e:S'.contains t=true
 ·rw[if_pos e];rw[if_pos (hS t e)]at hk;exact hk
 ·rw[if_neg e]
  by_cases e2:S.contains t=true
  ·rw[h0 t e2 (by simpa using e)];exact .junk _
  ·rw[if_neg e2]at hk;exact hk
def pk(P:Program)(s0:St)(F:Nat->AV)(q:OpQ):Prop:=
 ∀(S:List Nat) (s:St) (K:St->AV->Prop),EW s0 F S s->(q.2.2.all fun t=>S.contains t)=true->K s (F q.1)->ZP P q.1 s K q.2.1
theorem b7x{P:Program}{s0:St}{F:Nat->AV}{ops:List OpQ}{fd:Nat}{fr:Wu}{fin:VT}{K:St->Prop}(Oc:∀q,q∈ops->pk P s0 F q)
 (T3:∀S s,EW s0 F S s->(∀t,S.contains t=true->∃q,q∈ops/\q.1=t)->(ops.all fun q=>S.contains q.1)=true->ZP P fd s (fun s' x=>Uc P fin (s'.put (some fd) x) K) fr):
 ∀(t:VT) (S:List Nat) (s:St),EW s0 F S s->(∀t,S.contains t=true->∃q,q∈ops/\q.1=t)->Od ops fd fr t S=true->(∀t',t'∈D2 fd t->t'=fin)->Uc P t s K
 | .done,S,s,_,_,h,_=>by cases h
 | .alt a b,S,s,hs,hS,h,hf=>by
  simp only[Od,a4C]at h;simp only[D2,a1E]at hf;exact⟨b7x Oc T3 a S s hs hS h.1 fun t' ht=>hf t' (.inl ht),b7x Oc T3 b S s hs hS h.2 fun t' ht=>hf t' (.inr ht)⟩
 | .op ⟨d,g,r⟩ t,S,s,hs,hS,h,hf=>by
  simp only[Od]at h;split at h
  ·rename_i d';simp only[D2]at hf
   by_cases e:d5d d' fd=true
   ·rw[if_pos e]at h;simp only[e,if_true,a2z]at hf;rw[a4C]at h;obtain rfl:=c2C e;obtain rfl:=b3x h.1;obtain rfl:=hf t rfl;exact T3 S s hs hS h.2
   ·rw[if_neg e]at h;simp only[e]at hf;rw[a4C]at h;obtain⟨q,hq,h3⟩:=b4o.1 h.1;rw[a4C,a4C]at h3;obtain⟨q1,q2,q3⟩:=q;have e1:=c2C h3.1.1;have e2:=b3x h3.1.2;simp only at e1 e2;subst e1 e2
    exact Oc _ hq S s (fun s' x=>Uc P t (s'.put (some q1) x) K) hs h3.2 (b7x Oc T3 t (q1::S) _ (hs.set q1) (fun t ht=>by
     rw[c6F,Bool.or_eq_true]at ht
     rcases ht with g|g
     ·exact⟨_,hq,(eq_of_beq g).symm⟩
     ·exact hS t g) h.2 (by simpa using hf))
  ·cases h
section
variable{P:Program}{s0:St}{F:Nat->AV}
theorem EW.ev{S:List Nat}{s:St}(h:EW s0 F S s){need:List Nat}(hn:(need.all fun t=>S.contains t)=true){t:Nat}(ht:need.contains t=true):s.get t=F t:=by
 rw[h.fr t,if_pos];exact a0E.1 hn t (a0N.1 ht)
theorem b8x{s:St}:∀(l:List AV),l.all AV.plain=true->l.map (s.arg true [])=l/\l.map (s.arg false [])=l/\l.all (AV.YO [])=true
 | [],_=>⟨rfl,rfl,rfl⟩
 |x::l,h=>by
  rw[b4x,a4C]at h;obtain⟨h1,h2,h3⟩:=b8x l h.2
  have hx:s.arg true [] x=x/\s.arg false [] x=x/\AV.YO [] x=true:=by
   have hp:=h.1
   cases x with
   |iv y=>exact⟨rfl,rfl,rfl⟩
   |agg cs=>
    have hc:∀c∈cs,c.D1=true:=fun c hc=>a0E.1 hp c hc
    have hm:∀b,cs.map (s.arg1 b [])=cs:=fun b=>by
     conv=>rhs;rw[<-List.map_id cs]
     refine b5s fun c D0=>?_
     have:=hc c D0
     cases c<;>first|rfl|cases this
    refine⟨by simp[St.arg,hm],by simp[St.arg,hm],?_⟩;simp only[AV.YO,a0E];intro c D0;have:=hc c D0
    cases c<;>first|rfl|cases this
   | _=>cases hp
  exact⟨by rw[a0G,hx.1,h1],by rw[a0G,hx.2.1,h2],by rw[b4x,hx.2.2,h3];rfl⟩
theorem b9x:∀(l:List AV),l.all AV.plain=true->l.filter (fun x=> !x.YO [])=[]:=fun l h=>by
 have:=(b8x (s:=⟨[],[]⟩) l h).2.2;rw[b0T];intro x hx;simp[a0E.1 this x hx]
theorem b0y{s:St}{d:Nat}(h:look s.hp d=none):s.drop d=s:=by
 unfold St.drop;rw[h]
theorem b1y{b:Bool}{d:Nat}{f:FuncId}{ts need:List Nat}{args:List AV}{res:AV}(h:ZU P b f args [] res [])(hF:F d=res)(YQ:ts.map F=args)(UN:args.all AV.plain=true)
 (hd:look s0.hp d=none) (hn:ts=need):pk P s0 F (d, .call f (ts.map Operand.tmp),need):=by
 subst hn;intro S s K hs Zt hk
 have RP:(ts.map Operand.tmp).map s.ev=args:=by
  rw[<-YQ,List.map_map]
  refine b5s fun t ht=>?_
  show s.get t=F t
  exact hs.ev Zt (a0N.2 ht)
 have hsd:look s.hp d=none:=by rw[hs.hp];exact hd
 show LC P d f [] (ts.map Operand.tmp) [] none s K
 have hA:s.args [] (ts.map Operand.tmp) []=args:=by simp only[St.args,a8U,List.nil_append,List.append_nil];exact RP
 obtain⟨p1,p2,p3⟩:=b8x (s:=s) args UN
 cases b with
 |true=>
  refine qg ⟨s,Le.refl s,true,[],res,[],s,(b0y hsd).symm,trivial,{spec:=?_,refs:=?_,sub:=fun _ _ h=>(by cases h),own:=fun _ _ h=>(by cases h),keep:=fun _ _ h=>(by cases h),new:=fun _ _ h=>(by cases h)},?_⟩
  ·rw[a8U,hA,p1];exact h
  ·rw[a8U,hA,p1];exact p3
  ·rw[hF]at hk;exact hk
 |false=>
  have hfz:(s.Y9 ((s.args [] (ts.map Operand.tmp) []).filter fun x=> !x.YO [])).drop d=s:=by
   rw[hA,b9x args UN];exact b0y hsd
  refine qg ⟨s,Le.refl s,false,[],res,[],s,hfz.symm,trivial,{spec:=?_,refs:=?_,sub:=fun _ _ h=>(by cases h),own:=fun _ _ h=>(by cases h),keep:=fun _ _ h=>(by cases h),new:=fun _ _ h=>(by cases h)},?_⟩
  ·rw[a8U,hA,p2];exact h
  ·rw[a8U,hA,p2];exact p3
  ·rw[hF]at hk;exact hk
theorem pj{d t id off n:Nat}{cs:List AV}{need:List Nat}(hF:F d= .agg ((cs.drop off).take n))(hp:look s0.hp id=some (.box cs))(hl:off+n<=cs.length)
 (ht:(need.contains t=true/\F t= .ptr id off)\/(s0.get t= .ptr id off/\F t= .ptr id off)):pk P s0 F (d, .ld (.tmp t) (some n),need):=by
 intro S s K hs Zt hk
 have hg:s.get t= .ptr id off:=by
  rcases ht with⟨h1,h2⟩|⟨h1,h2⟩
  ·rw[hs.ev Zt h1,h2]
  ·rw[hs.fr t];split<;>assumption
 have Xw:look s.hp id=some (.box cs):=by rw[hs.hp];exact hp
 rw[hF]at hk;simp only[ZP,St.ev,hg,Xw];exact⟨hl,hk⟩
end
theorem b3y{α:Type}{l:List α}{x:α}(h:l=List.replicate l.length x):∀y,y∈l->y=x:=fun y hy=>by
 rw[h]at hy;exact List.eq_of_mem_replicate hy
end Go.Vm
end

section
namespace Go.Rt
open Go.Vm
theorem MN{P:Program}{f:Nat}{t:TypeId}{cs:List IV}{k:IntKind}(hu:P.underlying t=some (.int k))(h:Vz P f t cs):∃n,cs=[.v (.int k n)]/\(Lit.int k n).wf=true:=by
 cases f with
 |zero=>exact h.elim
 |succ f=>simpa only[Vz,hu]using h
theorem d3p{P:Program}{f:Nat}{t:TypeId}{cs:List IV}(hu:P.underlying t=some .bool)(h:Vz P f t cs):∃b,cs=[.v (.bool b)]:=by
 cases f with
 |zero=>exact h.elim
 |succ f=>simpa only[Vz,hu]using h
theorem d4p{P:Program}{f:Nat}{t:TypeId}{cs:List IV}(hu:P.underlying t=some .string)(h:Vz P f t cs):∃s:ByteArray,cs=[.v (.string s)]/\s.size<2^63:=by
 cases f with
 |zero=>exact h.elim
 |succ f=>
  simp only[Vz,hu]at h;obtain⟨s,h1,h2⟩:=h;refine⟨s,h1,c7L h2 (by decide)⟩
theorem qY{P:Program}{f:Nat}{t e n:Nat}{cs:List IV}(hu:P.underlying t=some (.slice e))(hn:P.cellsOf e=n)(h:Vz P f t cs):∃f',f=f'+1/\∃xs,cs=[.Z6 n xs]/\xs.length<2^63/\∀x∈xs,Vz P f' e x:=by
 cases f with
 |zero=>exact h.elim
 |succ f=>
  simp only[Vz,hu,hn]at h;obtain⟨xs,h1,h2,h3⟩:=h;exact⟨f,rfl,xs,h1,c7L h2 (by decide),h3⟩
def fieldsOf(P:Program)(t:TypeId):Option (List (Nat×Nat×Nat)):=match P.underlying t with
 |some (.struct fs)=>some (fs.toList.map fun f=>(f.type,f.offset,P.cellsOf f.type))
 | _=>none
theorem qX{P:Program}{f:Nat}{t n:Nat}{l:List (Nat×Nat×Nat)}{cs:List IV}(hu:fieldsOf P t=some l)(hn:P.cellsOf t=n)(h:Vz P f t cs):
 ∃f',f=f'+1/\cs.length=n/\∀p∈l,Vz P f' p.1 ((cs.drop p.2.1).take p.2.2):=by
 unfold fieldsOf at hu;split at hu
 ·rename_i fs hu'
  cases f with
  |zero=>exact h.elim
  |succ f=>
   simp only[Vz,hu',hn]at h;refine⟨f,rfl,h.1,fun p hp=>?_⟩;cases hu;obtain⟨WJ,h1,rfl⟩:=a3E.1 hp;exact h.2 WJ h1
 ·cases hu
theorem Ui{α:Type}(cs:List α)(o n:Nat){x:List α}(h:(cs.drop o).take n=x):cs.drop o=x++cs.drop (o+n):=by
 rw[<-h, <-List.drop_drop,List.take_append_drop]
theorem qW{α:Type}{cs:List α}{o:Nat}(h:cs.length=o):cs.drop o=[]:=List.drop_eq_nil_of_le (by omega)
theorem tT{α β:Type}{f:α->β}{Q:α->Prop}:∀{xs:List β},(∀x,x∈xs->∃p,Q p/\x=f p)->∃ps:List α,xs=ps.map f/\∀p,p∈ps->Q p
 | [],_=>⟨[],rfl,fun _ h=>by cases h⟩
 |x::r,h=>by
  obtain⟨p,h1,rfl⟩:=h x a8C
  obtain⟨ps,rfl,h3⟩:=tT (xs:=r) fun y hy=>h y (a2C _ hy)
  exact⟨p::ps,rfl,fun q hq=>by
   rcases a2E.1 hq with rfl|hq
   ·exact h1
   ·exact h3 q hq⟩
section
theorem u4:prog.underlying 4=some .bool:=by kernel_rfl
theorem u2:prog.underlying 2=some (.int .i64):=by kernel_rfl
theorem u3:prog.underlying 3=some (.int .i64):=by kernel_rfl
theorem u9:prog.underlying 9=some .string:=by kernel_rfl
theorem d0q{f:Nat}{cs:List IV}(h:Vz prog f 33 cs):∃v:Vl,cs=v.cells/\v.s.size<2^63:=by
 obtain⟨f,rfl,hl,hf⟩:=qX (P:=prog) (t:=33) (n:=3) (l:=[(4,0,1),(2,1,1),(9,2,1)]) (by kernel_rfl) (by kernel_rfl) h;obtain⟨b,h1⟩:=d3p u4 (hf (4,0,1) (by decide));obtain⟨n,h2,_⟩:=MN u2 (hf (2,1,1) (by decide));obtain⟨s,h3,h4⟩:=d4p u9 (hf (9,2,1) (by decide));refine⟨⟨b,n,s⟩,?_,h4⟩;have e:=Ui cs 0 1 h1;rw[Ui cs 1 1 h2,Ui cs 2 1 h3,qW hl]at e
 exact e
theorem d1q{f:Nat}{cs:List IV}(h:Vz prog f 39 cs):∃v:Vs,cs=v.cells:=by
 obtain⟨f,rfl,hl,hf⟩:=qX (P:=prog) (t:=39) (n:=2) (l:=[(3,0,1),(3,1,1)]) (by kernel_rfl) (by kernel_rfl) h;obtain⟨b,h1,_⟩:=MN u3 (hf (3,0,1) (by decide));obtain⟨n,h2,_⟩:=MN u3 (hf (3,1,1) (by decide));refine⟨⟨b,n⟩,?_⟩;have e:=Ui cs 0 1 h1;rw[Ui cs 1 1 h2,qW hl]at e;exact e
theorem d2q{f:Nat}{cs:List IV}(h:Vz prog f 42 cs):∃r:List Vl,cs=[.Z6 3 (YM r)]/\r.length<2^63:=by
 obtain⟨f,rfl,xs,rfl,hl,hx⟩:=qY (P:=prog) (t:=42) (e:=33) (n:=3) (by kernel_rfl) (by kernel_rfl) h
 obtain⟨r,rfl,_⟩:=tT (f:=Vl.cells) (Q:=fun _=>True) (xs:=xs) fun x hm=>by
  obtain⟨v,h1,_⟩:=d0q (hx x hm);exact⟨v,trivial,h1⟩
 exact⟨r,rfl,by simpa using hl⟩
theorem f9l:∀{f:Nat} {cs:List IV},Vz prog f 45 cs->∃p:Pd,cs=p.cells/\p.Ok:=by
 intro f
 induction f using Nat.strongRecOn with
 |ind f ih=>
  intro cs h;obtain⟨f1,rfl,hl,hf⟩:=qX (P:=prog) (t:=45) (n:=9) (l:=[(3,0,1),(3,1,1),(33,2,3),(33,5,3),(43,8,1)]) (by kernel_rfl) (by kernel_rfl) h;obtain⟨o,h1,_⟩:=MN u3 (hf (3,0,1) (by decide));obtain⟨c,h2,_⟩:=MN u3 (hf (3,1,1) (by decide));obtain⟨v,h3,hv⟩:=d0q (hf (33,2,3) (by decide));obtain⟨w,h4,hw⟩:=d0q (hf (33,5,3) (by decide))
  obtain⟨f2,rfl,xs,h5,Jt,hx⟩:=qY (P:=prog) (t:=43) (e:=45) (n:=9) (by kernel_rfl) (by kernel_rfl) (hf (43,8,1) (by decide))
  obtain⟨ps,rfl,G7⟩:=tT (f:=Pd.cells) (Q:=Pd.Ok) (xs:=xs) fun x hm=>by
   obtain⟨p,g1,g2⟩:=ih f2 (by omega) (hx x hm);exact⟨p,g2,g1⟩
  refine⟨.mk o c v w ps,?_, .mk _ (by rw[a6S]at Jt;exact Jt) hv hw G7⟩;have e:=Ui cs 0 1 h1;rw[Ui cs 1 1 h2,Ui cs 2 3 h3,Ui cs 5 3 h4,Ui cs 8 1 h5,qW hl]at e;rw[Pd.Z8];exact e
theorem f0m{f:Nat}{cs:List IV}(h:Vz prog f 54 cs):∃r:Rf,cs=r.cells/\r.key.s.size<2^63:=by
 obtain⟨f,rfl,hl,hf⟩:=qX (P:=prog) (t:=54) (n:=5) (l:=[(33,0,3),(39,3,2)]) (by kernel_rfl) (by kernel_rfl) h;obtain⟨v,h1,hv⟩:=d0q (hf (33,0,3) (by decide));obtain⟨n,h2⟩:=d1q (hf (39,3,2) (by decide));refine⟨⟨v,n⟩,?_,hv⟩;have e:=Ui cs 0 3 h1;rw[Ui cs 3 2 h2,qW hl]at e;exact e
theorem d3q{n:Int}(h:(Lit.int .i64 n).wf=true): -(2^63)<=n/\n<2^63:=by
 unfold Lit.wf at h;rw[a4C,decide_eq_true_eq,decide_eq_true_eq]at h
 have h1:IntKind.min .i64= -(2^63):=by decide
 have h2:IntKind.max .i64=2^63-1:=by decide
 rw[h1,h2]at h;omega
theorem f1m{f:Nat}{cs:List IV}(h:Vz prog f 48 cs):∃e:Ev,cs=e.cells/\e.Ok/\(-(2^63)<=e.txn/\e.txn<2^63):=by
 obtain⟨f,rfl,hl,hf⟩:=qX (P:=prog) (t:=48) (n:=22) (l:=[(3,0,1),(3,1,1),(3,2,1),(3,3,1),(33,4,3),(39,7,2),(3,9,1),(42,10,1),(45,11,9),(46,20,1),(4,21,1)]) (by kernel_rfl) (by kernel_rfl) h;obtain⟨a1,h1,r1⟩:=MN u3 (hf (3,0,1) (by decide));obtain⟨a2,h2,_⟩:=MN u3 (hf (3,1,1) (by decide))
 obtain⟨a3,h3,_⟩:=MN u3 (hf (3,2,1) (by decide));obtain⟨a4,h4,_⟩:=MN u3 (hf (3,3,1) (by decide));obtain⟨k,h5,hk⟩:=d0q (hf (33,4,3) (by decide));obtain⟨v,h6⟩:=d1q (hf (39,7,2) (by decide));obtain⟨n,h7,_⟩:=MN u3 (hf (3,9,1) (by decide));obtain⟨r,h8,hr⟩:=d2q (hf (42,10,1) (by decide));obtain⟨p,h9,hp⟩:=f9l (hf (45,11,9) (by decide))
 obtain⟨f2,rfl,xs,U0,Jt,hx⟩:=qY (P:=prog) (t:=46) (e:=54) (n:=5) (by kernel_rfl) (by kernel_rfl) (hf (46,20,1) (by decide));obtain⟨b,TD⟩:=d3p u4 (hf (4,21,1) (by decide))
 obtain⟨rs,rfl,hrs⟩:=tT (f:=Rf.cells) (Q:=fun r=>r.key.s.size<2^63) (xs:=xs) fun x hm=>by
  obtain⟨p,g1,g2⟩:=f0m (hx x hm);exact⟨p,g2,g1⟩
 refine⟨⟨a1,a2,a3,a4,k,v,n,r,p,rs,b⟩,?_,⟨hr,by simpa using Jt,hp,hk,hrs⟩,d3q r1⟩;have e:=Ui cs 0 1 h1;rw[Ui cs 1 1 h2,Ui cs 2 1 h3,Ui cs 3 1 h4,Ui cs 4 3 h5,Ui cs 7 2 h6,Ui cs 9 1 h7,Ui cs 10 1 h8,Ui cs 11 9 h9,Ui cs 20 1 U0,Ui cs 21 1 TD,qW hl]at e;rw[Ev.Z8];rw[Pd.Z8]at e;exact e
theorem d4q{f:Nat}{cs:List IV}(h:Vz prog f 49 cs):∃r:List Int,cs=[.Z6 1 (Yj r)]/\r.length<2^63:=by
 obtain⟨f,rfl,xs,rfl,hl,hx⟩:=qY (P:=prog) (t:=49) (e:=3) (n:=1) (by kernel_rfl) (by kernel_rfl) h
 obtain⟨r,rfl,_⟩:=tT (f:=fun i=>[ci i]) (Q:=fun _=>True) (xs:=xs) fun x hm=>by
  obtain⟨v,h1,_⟩:=MN u3 (hx x hm);exact⟨v,trivial,h1⟩
 exact⟨r,rfl,by simpa using hl⟩
theorem d5q{f:Nat}{cs:List IV}(h:Vz prog f 67 cs):∃r:List Bool,cs=[.Z6 1 (rq r)]/\r.length<2^63:=by
 obtain⟨f,rfl,xs,rfl,hl,hx⟩:=qY (P:=prog) (t:=67) (e:=4) (n:=1) (by kernel_rfl) (by kernel_rfl) h
 obtain⟨r,rfl,_⟩:=tT (f:=fun b=>[cb b]) (Q:=fun _=>True) (xs:=xs) fun x hm=>by
  obtain⟨v,h1⟩:=d3p u4 (hx x hm);exact⟨v,trivial,h1⟩
 exact⟨r,rfl,by simpa using hl⟩
theorem d6q{f:Nat}{cs:List IV}(h:Vz prog f 51 cs):∃o:Ins,cs=o.cells/\(o.ZW.length<2^63/\o.key.s.size<2^63):=by
 obtain⟨f,rfl,hl,hf⟩:=qX (P:=prog) (t:=51) (n:=5) (l:=[(3,0,1),(33,1,3),(49,4,1)]) (by kernel_rfl) (by kernel_rfl) h;obtain⟨a,h1,_⟩:=MN u3 (hf (3,0,1) (by decide));obtain⟨k,h2,hk⟩:=d0q (hf (33,1,3) (by decide));obtain⟨r,h3,hr⟩:=d4q (hf (49,4,1) (by decide));refine⟨⟨a,k,r⟩,?_,hr,hk⟩;have e:=Ui cs 0 1 h1
 rw[Ui cs 1 3 h2,Ui cs 4 1 h3,qW hl]at e;exact e
theorem f2m{f:Nat}{cs:List IV}(h:Vz prog f 69 cs):∃t:Tb,cs=[Wr t]/\t.length<2^63:=by
 obtain⟨f,rfl,hl,hf⟩:=qX (P:=prog) (t:=69) (n:=1) (l:=[(67,0,1)]) (by kernel_rfl) (by kernel_rfl) h;obtain⟨r,h1,hr⟩:=d5q (hf (67,0,1) (by decide));refine⟨r,?_,hr⟩;have e:=Ui cs 0 1 h1;rw[qW hl]at e;exact e
theorem d7q{f:Nat}{cs:List IV}(h:Vz prog f 26 cs):∃h:Hs,cs=h.cells/\h.Ok/\h.Rg:=by
 obtain⟨f,rfl,hl,hf⟩:=qX (P:=prog) (t:=26) (n:=3) (l:=[(22,0,1),(23,1,1),(24,2,1)]) (by kernel_rfl) (by kernel_rfl) h;obtain⟨f1,e1,xs1,h1,l1,g1⟩:=qY (P:=prog) (t:=22) (e:=69) (n:=1) (by kernel_rfl) (by kernel_rfl) (hf (22,0,1) (by decide))
 obtain⟨f2,e2,xs2,h2,l2,g2⟩:=qY (P:=prog) (t:=23) (e:=48) (n:=22) (by kernel_rfl) (by kernel_rfl) (hf (23,1,1) (by decide));obtain⟨f3,e3,xs3,h3,l3,g3⟩:=qY (P:=prog) (t:=24) (e:=51) (n:=5) (by kernel_rfl) (by kernel_rfl) (hf (24,2,1) (by decide))
 obtain⟨ts,rfl,ht⟩:=tT (f:=fun t:Tb=>[Wr t]) (Q:=fun t=>t.length<2^63) (xs:=xs1) fun x hm=>by
  obtain⟨p,a1,a2⟩:=f2m (g1 x hm);exact⟨p,a2,a1⟩
 obtain⟨es,rfl,he⟩:=tT (f:=Ev.cells) (Q:=fun e=>e.Ok/\(-(2^63)<=e.txn/\e.txn<2^63)) (xs:=xs2) fun x hm=>by
  obtain⟨p,a1,a2⟩:=f1m (g2 x hm);exact⟨p,a2,a1⟩
 obtain⟨os,rfl,ho⟩:=tT (f:=Ins.cells) (Q:=fun o=>o.ZW.length<2^63/\o.key.s.size<2^63) (xs:=xs3) fun x hm=>by
  obtain⟨p,a1,a2⟩:=d6q (g3 x hm);exact⟨p,a2,a1⟩
 refine⟨⟨ts,es,os⟩,?_,⟨by simpa using l1,by simpa using l2,by simpa using l3,fun e h=>(he e h).1,fun o h=>(ho o h).1,ht,fun o h=>(ho o h).2⟩,fun e h=>(he e h).2⟩;have e:=Ui cs 0 1 h1;rw[Ui cs 1 1 h2,Ui cs 2 1 h3,qW hl]at e;exact e
end
end Go.Rt
end

section
namespace Go.Proofs.YthkdpdpgmhmgoaaGreat
open Go.ChangeShapes Go.WideShapes Go.ChangeAt Go.RowKit Go.Vm Go.Rt
open Go.Proofs (Tryz.prog)
theorem own:ownKnob Tryz.prog.godebug=none:=by kernel_rfl
theorem e1b:laidOutB Tryz.prog=true:=by kernel_rfl
def NH:List TypeId:=[26,22,23,24,69,67,4,48,3,33,2,9,39,42,45,43,46,54,51,49]
theorem e2b:d7r Tryz.prog NH=true:=by kernel_rfl
theorem e3b:∀t∈[26,33,3,4],Tryz.prog.readableRec t=true/\t<Tryz.prog.types.size:=by
 intro t ht;simp only[a2E,b8w,or_false]at ht
 rcases ht with rfl|rfl|rfl|rfl
 ·exact⟨by kernel_rfl,of_decide_eq_true (by kernel_rfl)⟩
 ·exact⟨by kernel_rfl,of_decide_eq_true (by kernel_rfl)⟩
 ·exact⟨by kernel_rfl,of_decide_eq_true (by kernel_rfl)⟩
 ·exact⟨by kernel_rfl,of_decide_eq_true (by kernel_rfl)⟩
theorem e4b:XZ Tryz.prog 26=true:=by kernel_rfl
theorem f4t:XZ Tryz.prog 3=false:=by kernel_rfl
theorem e5b{WU:List (List IV)}(h:d2w Tryz.prog [26] WU):∃h:Hs,h.Ok/\h.Rg/\Q8 Tryz.prog [26] WU=[h.av]:=by
 match WU,h with
 | [cs],⟨⟨f,h1⟩,_⟩=>
  obtain⟨h,rfl,ZY,Xp⟩:=d7q h1;exact⟨h,ZY,Xp,by simp only[Q8,e4b];rfl⟩
theorem e6b{WU:List (List IV)}(h:d2w Tryz.prog [26,3] WU):∃(h:Hs) (n:Int),h.Ok/\h.Rg/\(-(2^63)<=n/\n<2^63)/\Q8 Tryz.prog [26,3] WU=[h.av,vi n]:=by
 match WU,h with
 | [cs,ds],⟨⟨f,h1⟩,⟨i,h2⟩,_⟩=>
  obtain⟨h,rfl,ZY,Xp⟩:=d7q h1;obtain⟨n,rfl,hn⟩:=MN u3 h2;exact⟨h,n,ZY,Xp,d3q hn,by simp only[Q8,e4b,f4t];rfl⟩
theorem e7b{WU:List (List IV)}(h:d2w Tryz.prog [26,3,3] WU):∃(h:Hs) (n m:Int),h.Ok/\h.Rg/\(-(2^63)<=n/\n<2^63)/\(-(2^63)<=m/\m<2^63)/\Q8 Tryz.prog [26,3,3] WU=[h.av,vi n,vi m]:=by
 match WU,h with
 | [cs,ds,es],⟨⟨f,h1⟩,⟨i,h2⟩,⟨j,h3⟩,_⟩=>
  obtain⟨h,rfl,ZY,Xp⟩:=d7q h1;obtain⟨n,rfl,hn⟩:=MN u3 h2;obtain⟨m,rfl,hm⟩:=MN u3 h3;exact⟨h,n,m,ZY,Xp,d3q hn,d3q hm,by simp only[Q8,e4b,f4t];rfl⟩
end Go.Proofs.YthkdpdpgmhmgoaaGreat
end

section
namespace Go.Rt
open Go.Vm
theorem b1k{α:Type}{p q:α->Bool}{l:List α}(h:∀x,x∈l->p x=q x):S6 p l=S6 q l:=by
 unfold S6
 have:l.findIdx? p=l.findIdx? q:=by
  induction l with
  |nil=>rfl
  |cons x l ih=>
   rw[d6p,d6p,h x a8C,ih fun y hy=>h y (a2C _ hy)]
 rw[this]
theorem b2k{α:Type}{p q:α->Bool}{l:List α}(h:∀x,x∈l->p x=true->q x=true):S6 p l<0\/(0<=S6 q l/\S6 q l<=S6 p l):=by
 rcases c0C p l with⟨i,x,h1,h2,h3,h4⟩|⟨h1,h2⟩
 ·right
  rcases c0C q l with⟨j,y,g1,g2,g3,g4⟩|⟨g1,g2⟩
  ·rw[h3,g3];refine⟨by omega,?_⟩
   rcases a6U i j with Xo|Xo
   ·have:=g4 i x Xo h1;rw[h x (a8y h1) h2]at this;cases this
   ·omega
  ·have:=g1 x (a8y h1);rw[h x (a8y h1) h2]at this;cases this
 ·left;omega
section
variable{h:Hs}
theorem b3k(hw:YP h)(t:Int):t∈XO h.events↔W6 h.events t=5:=⟨a1B hw,qy⟩
theorem b4k(hw:YP h)(t:Int):Oo h.events t=JL h.events t:=by
 unfold Oo JL;rw[c3n (b5z hw)]
theorem b5k(hw:YP h){e:Ev}(he:e∈h.events){p:Vl×Vs}(hp:p∈XV e)(hv:p.2≠⟨0,0⟩)(ht:p.2.txn≠e.txn):1<=p.2.n/\p.2.n<=Yo h.events p.2.txn e.table p.1:=by
 obtain⟨i,hi⟩:=a9B he;have XS:=(IE hw hi).1;unfold XV at hp;split at hp
 ·rename_i k2;rw[a2z]at hp;subst hp;have hr:=(XS.2.1 k2).2;simp only at hv ht⊢;split at hr
  ·rw[hr]at ht;exact absurd rfl ht
  ·rcases hr with hr|⟨g1,g2⟩
   ·exact absurd hr hv
   ·have:=b7z (es:=h.events) i e.ZX.txn e.table e.key;omega
 ·split at hp
  ·rename_i k4;obtain⟨r,hr,rfl⟩:=a3E.1 hp;obtain⟨j,hj⟩:=a9B hr;obtain⟨_,⟨g1,g2⟩,_⟩:=(XS.2.2.2 k4).2.1 j (a7y.1 hj).1 r hj;have:=b7z (es:=h.events) i r.ZX.txn e.table r.key;simp only;omega
  ·cases hp
theorem b6k(es:List Ev)(t table:Int)(k:Vl):Yo es t table k<=es.length:=b9b _ _
theorem b7k(hw:YP h){e:Ev}{p:Vl×Vs}:JK (Tp h.events e) p=UX h 1 e p.1 p.2:=by
 unfold JK Tp UX
 by_cases hv:p.2=⟨0,0⟩
 ·simp[hv]
 ·simp[hv,b3k hw]
theorem b8k(hw:YP h)(hl:h.events.length<2^40){e:Ev}(he:e∈h.events){p:Vl×Vs}(hp:p∈XV e):JK (SX h.events e) p=UX h 2 e p.1 p.2:=by
 unfold JK SX UX
 by_cases hv:p.2=⟨0,0⟩
 ·simp[hv]
 ·rw[if_neg hv,if_neg (by decide),decide_eq_true hv,c6T]
  by_cases ht:p.2.txn=e.txn
  ·simp[ht]
  ·obtain⟨h1,h2⟩:=b5k hw he hp hv ht;have h3:=b6k h.events p.2.txn e.table p.1;rw[Zo (n:=p.2.n+1) (by omega),b3S,a4C,b6z hw,decide_eq_true_eq,decide_eq_true_eq,Vs.eq_iff];simp only;constructor
   ·rintro⟨_,g|g⟩
    ·omega
    ·exact⟨ht,by omega⟩
   ·rintro⟨_,g⟩;exact⟨ht, .inr (by omega)⟩
theorem b9k{α:Type}{p q:α->Bool}{l:List α}(h:∀x,x∈l->p x=q x):l.any p=l.any q:=by
 induction l with
 |nil=>rfl
 |cons x l ih=>rw[c2H,c2H,h x a8C,ih fun y hy=>h y (a2C _ hy)]
theorem b0l(hw:YP h)(level:Int)(e:Ev):rQ h.events level e=decide (W6 h.events e.txn=5/\level<=JL h.events e.txn):=by
 unfold rQ;simp only[b3k hw,b4k hw]
theorem b1l(h:Hs)(level:Int):XH h level (Tp h.events)=SV h level 1:=by
 unfold XH SV
 by_cases hw:YP h
 ·rw[if_pos hw,if_pos hw]
  refine b1k fun e he=>?_
  unfold Vo VD;rw[b0l hw,b9k fun p _=>b7k hw]
 ·rw[if_neg hw,if_neg hw]
theorem b2l(hl:h.events.length<2^40)(level:Int):XH h level (SX h.events)=SV h level 2:=by
 unfold XH SV
 by_cases hw:YP h
 ·rw[if_pos hw,if_pos hw]
  refine b1k fun e he=>?_
  unfold Vo VD;rw[b0l hw,b9k fun p hp=>b8k hw hl he hp]
 ·rw[if_neg hw,if_neg hw]
theorem b3l{low high:Int}(hlh:low<=high)(bad:Ev->Vl->Vs->Bool):XH h high bad<0\/(0<=XH h low bad/\XH h low bad<=XH h high bad):=by
 unfold XH
 by_cases hw:YP h
 ·rw[if_pos hw,if_pos hw]
  refine b2k fun e he hb=>?_
  unfold Vo at hb⊢;rw[a4C]at hb⊢;refine⟨?_,hb.2⟩;have:=hb.1;unfold rQ at this⊢;rw[decide_eq_true_eq]at this⊢;exact⟨this.1,by omega⟩
 ·rw[if_neg hw];left;omega
theorem b4l(hw:YP h)(t:Int):Oo h.events t<=5:=by
 unfold Oo
 cases hl:Wc (Ev.Rk t) h.events with
 |none=>simp
 |some e=>
  obtain⟨h1,h2⟩:=MF hl;obtain⟨i,hi⟩:=a9B h1;simp only[Ev.Rk,a4C,decide_eq_true_eq]at h2;have:=(IE hw hi).1.1;simp only[Option.map_some,Option.getD_some];obtain⟨_,_,_,_,h5,_⟩:=this;have:=h5 h2.1;omega
theorem b5l(bad:Ev->Vl->Vs->Bool):XH h 6 bad= -1:=by
 unfold XH
 by_cases hw:YP h
 ·rw[if_pos hw,Ef];intro e _;unfold Vo rQ;have:=b4l hw e.txn;rw[decide_eq_false (fun g=>by omega)];rfl
 ·rw[if_neg hw]
end
def uq(l:List Int):List Int:=l.foldl (fun a x=>if x∈a then a else a++[x]) []
theorem e1e(l:List Int)(x:Int):uq (l++[x])=if x∈uq l then uq l else uq l++[x]:=by unfold uq;rw[a3U];rfl
theorem e2e:uq []=[]:=rfl
theorem e3e(l:List Int):(∀x,x∈uq l↔x∈l)/\(uq l).Nodup/\(uq l).length<=l.length:=by
 suffices h:∀(r:List Int),(∀x,x∈uq r.reverse↔x∈r)/\(uq r.reverse).Nodup/\(uq r.reverse).length<=r.length by
  have:=h l.reverse;simpa using this
 intro r
 induction r with
 |nil=>simp[e2e]
 |cons a r ih=>
  obtain⟨h1,h2,h3⟩:=ih;rw[List.reverse_cons,e1e];split
  ·rename_i h;refine⟨fun x=>?_,h2,by simp only[a3O];omega⟩;rw[h1,a2E];constructor
   ·exact fun hx=> .inr hx
   ·rintro(rfl|hx)
    ·exact(h1 _).1 h
    ·exact hx
  ·rename_i h;refine⟨fun x=>?_,?_,by simp only[a7J,a3O,c4n];omega⟩
   ·rw[a1E,h1,a2z,a2E];exact Or.comm
   ·rw[b5m];refine⟨h2,by simp,fun x hx y hy=>?_⟩;rw[a2z]at hy;subst hy;rintro rfl;exact h hx
def Rb(row:List Int)(i:Nat):Int:=(row[i]?).getD 0
theorem e4e{row:List Int}{i:Nat}{x:Int}(h:row[i]? =some x):Rb row i=x:=by simp[Rb,h]
def Ql(E:List (Int×Int))(left:List Int):Nat->Int
 | 0=> -1
 |i+1=>if TU E left (Rb left i)=true/\(Ql E left i<0\/Rb left i<Rb left (Ql E left i).toNat)then i else Ql E left i
theorem e6e(E:List (Int×Int))(left:List Int):∀i:Nat,(Ql E left i= -1/\∀j,j<i->TU E left (Rb left j)=false)∨
 ∃b:Nat,b<i/\Ql E left i=b/\TU E left (Rb left b)=true/\∀j,j<i->TU E left (Rb left j)=true->Rb left b<=Rb left j
 | 0=> .inl ⟨rfl,fun j h=>by omega⟩
 |i+1=>by
  rcases e6e E left i with⟨h1,h2⟩|⟨b,h1,h2,h3,h4⟩
  ·cases hf:TU E left (Rb left i)with
   |false=>
    refine .inl ⟨by simp[Ql,hf,h1],fun j hj=>?_⟩
    by_cases e:j=i
    ·subst e;exact hf
    ·exact h2 j (by omega)
   |true=>
    refine .inr ⟨i,by omega,by simp[Ql,hf,h1],hf,fun j hj Qv=>?_⟩
    by_cases e:j=i
    ·subst e;omega
    ·rw[h2 j (by omega)]at Qv;cases Qv
  ·cases hf:TU E left (Rb left i)with
   |false=>
    refine .inr ⟨b,by omega,by simp[Ql,hf,h2],h3,fun j hj Qv=>?_⟩
    by_cases e:j=i
    ·subst e;rw[hf]at Qv;cases Qv
    ·exact h4 j (by omega) Qv
   |true=>
    by_cases ZV:Rb left i<Rb left b
    ·refine .inr ⟨i,by omega,by simp[Ql,hf,h2,ZV],hf,fun j hj Qv=>?_⟩
     by_cases e:j=i
     ·subst e;omega
     ·have:=h4 j (by omega) Qv;omega
    ·refine .inr ⟨b,by omega,?_,h3,fun j hj Qv=>?_⟩
     ·have:¬((b:Int)<0):=by omega
      simp[Ql,hf,h2,ZV,this]
     ·by_cases e:j=i
      ·subst e;omega
      ·exact h4 j (by omega) Qv
theorem e7e{E:List (Int×Int)}{left:List Int}(h:∀j,j<left.length->TU E left (Rb left j)=false):Lg E left=none:=by
 rw[c1i];intro n hn;obtain⟨j,hj⟩:=a9B hn;rw[<-e4e hj];exact h j (a7y.1 hj).1
theorem e8e{E:List (Int×Int)}{left:List Int}{b:Nat}{n:Int}(hb:left[b]? =some n)(h3:TU E left (Rb left b)=true)(h4:∀j,j<left.length->TU E left (Rb left j)=true->Rb left b<=Rb left j):Lg E left=some n:=by
 rw[e4e hb]at h3 h4
 refine c3i (a8y hb) h3 fun m hm hf=>?_
 obtain⟨j,hj⟩:=a9B hm;have:=h4 j (a7y.1 hj).1;rw[e4e hj]at this;exact this hf
theorem e9e(l:List Eg)(e:Eg)(left:List Int)(n:Int):TU (UC (l++[e])) left n=(TU (UC l) left n&& !decide (e.to=n/\e.ZX∈left)):=by
 unfold TU UC;rw[a6M,List.any_append];simp
theorem e0f(left:List Int)(n:Int):TU (UC []) left n=true:=rfl
theorem e1f(
 l:List Eg) (hl:l.length<2^40) {row:List Int} (hr:row.length<2^40):ZU prog false Mp [.iv (Z5 l), .iv (XJ row)] [] (f3g l row) []:=by
 refine e9q (by decide) e3U (by simp) (by decide) ?_;simp-dsimp[a2l];refine YZ [4] [32] row.length (fun i=>⟨[(7,vi i),(6, .sl 6 1 0 (uq (row.take i)).length),(0, .iv (Z5 l)),(1, .iv (XJ row))],[(6, .list 1 (Yj (uq (row.take i))))]⟩) (fun _=>True) ?_ trivial ?_
 ·simp[e2e,Yj]
 ·intro i hi _
  by_cases Zb:i<row.length
  ·obtain⟨x,hx⟩:=Zw Zb;have hw:=Zo (n:=(i:Int)+1) (by omega);have VW:row.take (i+1)=row.take i++[x]:=b1N hx;obtain⟨u1,u2,u3⟩:=e3e (row.take i)
   have u3':(row.take i).length<=row.length:=by simp;omega
   rw[VW,e1e];generalize uq (row.take i)=u at*;have TL:a7U u.length (Yj u)=Yj u:=a2B (by simp);simp-dsimp[MJ,XJ,hx];refine⟨fun _=>?_,fun h=>absurd h (by omega)⟩;refine Zu (e0m u (by omega) x) (by simp[XJ,TL]) (by simp[XJ]) ?_
   by_cases Yq:x∈u
   ·have hp:¬Wm u x<0:=by have:=(c3C (l:=u) (x:=x)).2 Yq;omega
    simp-dsimp[hp,Yq,hw];exact Zb
   ·have hp:Wm u x<0:=by
     have:=(c3C (l:=u) (x:=x)).1
     by_cases h:0<=Wm u x
     ·exact absurd (this h) Yq
     ·omega
    simp-dsimp[hp,Yq,hw,hx];exact⟨by omega,by omega,Zb,by simp[Yj]⟩
  ·have Vp:i=row.length:=by omega
   subst Vp;obtain⟨u1,u2,u3⟩:=e3e row
   have g3f:Wt (UC l) row=Wt (UC l) (uq row):=c0j fun x=>(u1 x).symm
   rw[a7I];generalize uq row=L0 at*;simp-dsimp[MJ,XJ]
   refine Fi (fun k s=>∃(left out:List Int),left.length=k/\left.Nodup/\Wt (UC l) row=(Wt (UC l) left).map (out++ ·)/\out.length+left.length<=row.length∧
    s=⟨[(8, .sl 8 1 0 out.length),(6, .iv (XJ left)),(0, .iv (Z5 l))],[(8, .list 1 (Yj out))]⟩)
    ⟨_,_,LeTo.le (D:=[6]) ?_,L0,[],rfl,u2,by rw[g3f];cases Wt (UC l) L0<;>simp,by simpa using u3,rfl⟩ ?_
   ·simp[Yj,Z5,XJ];exact a2B (by simp)
   ·rintro k s ⟨left,out,rfl,WA,htp,hlen,rfl⟩
    by_cases hlf:left=[]
    ·subst hlf;rw[c9i]at htp
     have:out.length<=row.length:=by simpa using hlen
     simp-dsimp[Pc,XJ,Yj];exact⟨[8],by simp[JG,AV.Xj,htp,XJ,a2B,Yj]⟩
    ·have Yy:=a6I.2 hlf;simp-dsimp[Pc,hlf,Yy,XJ];refine YZ [] [] left.length (fun i=>⟨[(10,vi i),(9,vi (Ql (UC l) left i)),(8, .sl 8 1 0 out.length),(6, .iv (XJ left)),(0, .iv (Z5 l))],[(8, .list 1 (Yj out))]⟩) (fun _=>True) ?_ trivial ?_
     ·simp[Ql,Z5,XJ]
     ·intro i hi _
      by_cases Zb:i<left.length
      ·obtain⟨n,hn⟩:=Zw Zb;simp-dsimp[Pe,XJ];refine⟨fun _=>?_,fun h=>absurd h (by omega)⟩;refine YZ [] [] l.length (fun k=>⟨[(12,vi k),(11,vb (TU (UC (l.take k)) left n)),(10,vi i),(9,vi (Ql (UC l) left i)),(8, .sl 8 1 0 out.length),(6, .iv (XJ left)),(0, .iv (Z5 l))],[(8, .list 1 (Yj out))]⟩) (fun _=>True) ?_ trivial ?_
       ·simp[e0f,Z5,XJ]
       ·intro k hk _
        by_cases XL:k<l.length
        ·obtain⟨e,he⟩:=Zw XL;have hw:=Zo (n:=(k:Int)+1) (by omega);have VW:l.take (k+1)=l.take k++[e]:=b1N he;rw[VW,e9e]
         by_cases h1:e.to=n
         ·simp-dsimp[VO,Z5,XJ,he,Eg.cells,Zc,hn,h1];refine⟨fun _=>?_,fun h=>absurd h (by omega)⟩;refine Zu (e0m left (by omega) e.ZX) (by simp[XJ]) (by simp[XJ]) ?_
          by_cases Yq:e.ZX∈left
          ·have hp:=(c3C (l:=left) (x:=e.ZX)).2 Yq;simp-dsimp[hp,Yq,hw];exact XL
          ·have hp:¬0<=Wm left e.ZX:=fun h=>Yq (c3C.1 h)
           simp-dsimp[hp,Yq,hw];exact XL
         ·simp-dsimp[VO,Z5,XJ,he,Eg.cells,Zc,hn,h1,hw]
          exact fun h=>absurd h (by omega)
        ·have LG:k=l.length:=by omega
         subst LG;rw[a7I];have hw:=Zo (n:=(i:Int)+1) (by omega)
         have Vk:Ql (UC l) left (i+1)=if TU (UC l) left (Rb left i)=true/\(Ql (UC l) left i<0\/Rb left i<Rb left (Ql (UC l) left i).toNat)then(i:Int)else Ql (UC l) left i:=rfl
         rw[e4e hn]at Vk
         cases hf:TU (UC l) left n with
         |false=>
          rw[hf]at Vk;simp only[Bool.false_eq_true,false_and,if_false]at Vk;simp-dsimp[VO,Z5,XJ,hw,Vk];exact Zb
         |true=>
          rcases e6e (UC l) left i with⟨g1,g2⟩|⟨b,g1,g2,g3,g4⟩
          ·have Fx:Ql (UC l) left (i+1)=i:=by rw[Vk,hf,g1];simp
           simp-dsimp[VO,Z5,XJ,hw,g1,Fx];exact Zb
          ·obtain⟨m,hm⟩:∃m,left[b]? =some m:=Zw (by omega)
           have X3:¬(b:Int)<0:=by omega
           rw[g2,Int.toNat_natCast,e4e hm]at Vk
           by_cases ZV:n<m
           ·have Fx:Ql (UC l) left (i+1)=i:=by rw[Vk,hf];simp[ZV]
            simp-dsimp[VO,Z5,XJ,hw,g2,X3,hn,hm,ZV,Fx];exact Zb
           ·have Fx:Ql (UC l) left (i+1)=b:=by rw[Vk,hf];simp[ZV,X3]
            simp-dsimp[VO,Z5,XJ,hw,g2,X3,hn,hm,ZV,Fx];exact Zb
      ·have Vp:i=left.length:=by omega
       subst Vp;have hb:=e6e (UC l) left left.length;simp-dsimp[Pe,XJ]
       rcases hb with⟨h1,h2⟩|⟨b,h1,h2,h3,h4⟩
       ·have f5f:=c1j hlf (e7e h2);rw[f5f]at htp;simp-dsimp[h1];exact⟨[4],by simp[JG,AV.Xj,htp,XJ,Yj]⟩
       ·have X3:¬(b:Int)<0:=by omega
        obtain⟨n,hn⟩:=Zw h1;have f5f:=c2j (e8e hn h3 h4) (c0t WA hn);have Fw:(left.eraseIdx b).length=left.length-1:=List.length_eraseIdx_of_lt h1;have UY:=Zo (n:=(b:Int)+1) (by omega)
        have g4f:a7U b (Yj left)++a7U (left.length-(b+1)) (c3R (b+1) (Yj left))=Yj (left.eraseIdx b):=by
         rw[a2B (l:=c3R (b+1) (Yj left)) (by simp)];unfold Yj;rw[<-c5V, <-List.map_drop, <-a6M,List.eraseIdx_eq_take_drop_succ]
        have Mx:(left.length:Int)-((b:Int)+1)=((left.length-(b+1):Nat):Int):=by omega
        have Rl:a7U (b+(left.length-(b+1))) (Yj (left.eraseIdx b))=Yj (left.eraseIdx b):=a2B (by simp[Fw];omega)
        have hn2:min b left.length=b:=by omega
        simp-dsimp[h2,X3,hn,UY,Mx,hn2];refine⟨by omega,by omega,by omega,by omega,by omega,by omega,by omega,by omega,by omega,left.length-1,by omega,_,LeTo.le (D:=[13,93]) ?_,left.eraseIdx b,Fw,WA.sublist (List.eraseIdx_sublist _ _),out++[n],?_,?_,rfl⟩
        ·have hsn:Yj out++[[ci n]]=Yj (out++[n]):=by simp[Yj]
         simp[g4f,Rl,hsn,Z5,XJ]
        ·rw[htp,f5f,Option.map_map]
         congr 1
         funext x
         simp
        ·rw[a7J,c9E,Fw];omega
end Go.Rt
end
