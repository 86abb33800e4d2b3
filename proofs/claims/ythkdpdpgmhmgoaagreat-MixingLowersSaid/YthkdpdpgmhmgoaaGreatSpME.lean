/- Contracts of functions of the program, and what they lean on. Conditions: those of each theorem. -/
import Derived.Test.YthkdpdpgmhmgoaaGreatSpMD
import Derived.Test.YthkdpdpgmhmgoaaGreatSpMC
import Derived.Shelf.SlSortCmp.NoneTotal
import Derived.Ground.SlsfProg
import Derived.Test.YthkdpdpgmhmgoaaGreatProg

set_option linter.unusedVariables false
set_option linter.unusedSimpArgs false
set_option maxHeartbeats 64000000
set_option maxRecDepth 100000
open Array renaming eq_empty_of_size_eq_zero->b9b,getD_eq_getD_getElem?->a3E,getElem?_eq_getElem->a3N,getElem?_modify->a5N,size_mapIdx->b2P
open Bool renaming and_eq_true->a3C,or_eq_true->b6w,not_eq_true->c8v,not_eq_true'->b1K
open Classical renaming propDecidable->b8I
open Function renaming comp_def->b7A
open Int renaming toNat_natCast->c4c,sub_self->d9b
open List renaming take->a1V,take_of_length_le->a0z,find?_eq_none->b8O,getElem?_of_mem->a9B,getElem?_eq_some_iff->a5y,take_add_one->a3I,take_length->a6J,mem_of_getElem?->a6y,mem_cons_self->a4E,mem_cons_of_mem->a9C,length_cons->a4S,Nodup->d0j,pairwise_iff_getElem->b5K,getElem?_eq_getElem->a4G,getElem?_take_of_lt->b8t,mem_filter->a2E,mem_map->a0E,contains_cons->c0p,map_cons->a0I,cons_append->b4O,mem_append->a9E,mem_singleton->a1B,all_eq_true->a8C,contains_iff_mem->a6M,all_cons->b0w,map_id->c7N,map_congr_left->b5n,filter_eq_nil_iff->b3Z,map_map->b2Z,map_nil->a9U,nil_append->b3H,append_nil->b9o,replicate->a2N,mem_cons->a5E,not_mem_nil->b1E,perm_ext_iff_of_nodup->c6P,pairwise_cons->b7K,foldl_cons->b9j,getElem?_cons_succ->a5J,take_sublist->d3l,pairwise_map->c9D,range->a7I,getElem?_zip_eq_some->c3Q,getElem?_tail->c1E,getElem?_map->a1C,getElem?_cons_zero->a0F,getD_eq_getElem?_getD->a7S,mem_append_left->a7N,filter_append->b4j,mem_flatMap->a2O,map_append->a5M,drop->c5P,eq_nil_of_length_eq_zero->a2S,length_map->a5O,size_toArray->b7r,mergeSort_perm->c5e,pairwise_mergeSort->c3S,nodup_append->b6n,flatMap_cons->b0m,length_append->a7J,length_range->c3E,foldl_append->a5U,length_take->a3U,drop_sublist->d4l,map_take->c7D,map_drop->d2Q,filter_cons_of_pos->c4S,filter_cons_of_neg->c6S,flatMap_append->c7B,foldl_nil->b4Z
open List.Pairwise renaming nil->c2y
open List.Perm renaming eq_of_pairwise->d4U
open List.cons renaming injEq->a4U
open Nat renaming lt_trichotomy->c0H,le_refl->a8F,zero_le->c0t,lt_of_le_of_lt->c3I,beq->c9Z,eq_of_beq_eq_true->c5y,not_lt_zero->d6P,lt_or_ge->b5j,mul_comm->c2t,mul_le_mul_right->a0G,add_mul->a4N,one_mul->d1T
open Option renaming isSome_iff_exists->c3t,getD_some->a1J
open Option.some renaming injEq->a3y

section
namespace Go.Rt
open Go.Vm
def Yb(es:List Ev)(txn:Int):Int:=((Wr (Ev.UP txn) es).map Ev.level).getD 0
def WK(es:List Ev)(table:Int)(k:Vl)(v:Vs):Option (List Vl):=if v=⟨0,0⟩then some []else(Wr (Ev.Us v.txn table k v.n) es).map Ev.row
def Zu(es:List Ev)(os:List Ins)(table:Int)(k:Vl):List Vs:=match Wr (Ins.Sj table k) os with
 |some o=>SG es o
 |none=>[⟨0,0⟩]
def Yo(es:List Ev)(os:List Ins)(table:Int)(k:Vl)(v:Vs):Int:=if(WK es table k v).isNone then-1 else Uv (fun x=>decide (x.txn=v.txn)) (Zu es os table k)
def Pz(es:List Ev)(table:Int)(k:Vl)(p:Pd)(v:Vs):Bool:= !((WK es table k v).getD []).isEmpty&&p.holds ((WK es table k v).getD [])
def Vh(es:List Ev)(os:List Ins)(table:Int)(k:Vl)(W8:Int)(p:Pd):Bool:=
 if W8<1\/(Zu es os table k).length<=W8 then false else Pz es table k p (((Zu es os table k)[(W8-1).toNat]?).getD ⟨0,0⟩) != Pz es table k p (((Zu es os table k)[W8.toNat]?).getD ⟨0,0⟩)
theorem b9x{txn table:Int}{k:Vl}{m:Int}{e:Ev}(h:e.Us txn table k m=true):e.kind=3:=by
 simp only[Ev.Us,a3C,Ev.Yg]at h;exact h.1.1
abbrev g4x:AV:= .iv (.v (.pointer none))
section
variable(es:List Ev)(os:List Ins)
theorem b0y(txn:Int):ZX prog true YY [.iv (Yv es os),vi txn] [] (vi (Yb es txn)) []:=by
 refine YG lK (by simp) (by decide) rfl ?_;simp-dsimp[a4d,Yv,KI,Yb]
 cases Wr (Ev.UP txn) es<;>simp-dsimp
theorem b1y(XM:es.length<2^40):ZX prog false N8 [.iv (Yv es os)] [] (.iv (YI (Xo (Ye es)))) []:=by
 refine Te lJ (by simp) (by decide) ?_;have:=d6k es;simp-dsimp[a9a,Yv];refine Y6 (b9r (xs:=YW (Xo (Ye es))) (by simp[KH];omega)) rfl (by simp) (by simp) (by simp) (by simp) ?_;simp-dsimp;exact⟨[2],by simp[Yz,AV.Xt,YI]⟩
theorem b2y(table:Int)(k:Vl)(v:Vs)(Y8:HK es):ZX prog false N5 [.iv (Yv es os),vi table,k.av,v.av] [] (.Zp [.iv (.Z6 3 (Yp ((WK es table k v).getD []))),vb (WK es table k v).isSome]) []:=by
 refine FA (by decide) lI (by simp) (by decide) ?_
 by_cases h0:v=⟨0,0⟩
 ·subst h0;simp-dsimp[a7b,Yv,WK];exact⟨[8,6,7],by simp[PZ,AV.Xt,Yp]⟩
 ·have h1:v.txn=0->¬v.n=0:=fun h h'=>h0 (Vs.eq_iff.2 ⟨h,h'⟩)
  have h2:WK es table k v=(Wr (Ev.Us v.txn table k v.n) es).map Ev.row:=by unfold WK;rw[if_neg h0]
  rw[h2];simp-dsimp[a7b,Yv,KG];refine⟨fun a b=>absurd b (h1 a),fun _=>?_⟩
  cases hl:Wr (Ev.Us v.txn table k v.n) es with
  |none=>
   simp-dsimp;have hc:ZX prog false X5 [.iv (.Z6 3 [])] [] (.iv (.Z6 3 [])) []:=b1s (by simp);refine Y6 hc rfl (by simp) (by simp) (by simp) (by simp) ?_;simp-dsimp;exact⟨[6,7],by simp[PZ,AV.Xt,Yp]⟩
  |some e=>
   have hc:ZX prog false X5 [.iv (.Z6 3 (Yp e.row))] [] (.iv (.Z6 3 (Yp e.row))) []:=b1s (by simpa using Y8 e (MS hl).1 (b9x (MS hl).2));simp-dsimp;refine Y6 hc rfl (by simp) (by simp) (by simp) (by simp) ?_;simp-dsimp;exact⟨[6,7],by simp[PZ,AV.Xt]⟩
theorem b3y(table:Int)(k:Vl):ZX prog false NU [.iv (Yv es os),vi table,k.av] [] (.iv (.Z6 2 (Vk (Zu es os table k)))) []:=by
 refine Te lH (by simp) (by decide) ?_;simp-dsimp[PY,Yv,Dc,Zu]
 cases Wr (Ins.Sj table k) os with
 |none=>
  simp-dsimp;exact⟨[23,5],by simp[Yz,AV.Xt,Vk]⟩
 |some o=>
  simp-dsimp;exact⟨[5],by simp[Yz,AV.Xt]⟩
theorem b4y(table:Int)(k:Vl)(hc:(Zu es os table k).length<2^42):ZX prog false N0 [.iv (Yv es os),vi table,k.av] [] (.iv (.Z6 2 (Vk (Zu es os table k)))) []:=by
 refine Te lG (by simp) (by decide) ?_;simp-dsimp[a4c,Yv];refine Y6 (b3y es os table k) rfl (by simp[Yv]) (by simp) (by simp) (by simp) ?_;simp-dsimp;refine⟨by omega,by omega,?_⟩;have ht:a1V (Zu es os table k).length (Vk (Zu es os table k))=Vk (Zu es os table k):=a0z (by simp);refine⟨?_,[17],by simp[Yz,AV.Xt,ht]⟩;unfold Zu
 cases Wr (Ins.Sj table k) os<;>simp[SG]
theorem b5y:XV prog P6=true:=by kernel_rfl
theorem b6y(x v:Vs):ZX prog true P6 [x.av, .iv (.pt v.cells)] [] (vb (decide (x.txn=v.txn))) []:=by
 refine YG lF (by simp) (by decide) rfl ?_;simp-dsimp[a7e];rfl
theorem b7y(l:List Vs)(hl:l.length<2^63)(v:Vs):ZX prog true Gf [.iv (.Z6 2 (Vk l)), .fn P6 [] [.val (.pt v.cells)]] [] (vi (Uv (fun x=>decide (x.txn=v.txn)) l)) []:=by
 refine YG lE (by simp) (by decide) rfl ?_;simp-dsimp[a4e];refine YJ [] [] l.length (fun i=>⟨[(8,vi i),(7,vi l.length),(0, .iv (.Z6 2 (Vk l))),(1, .fn P6 [] [.val (.pt v.cells)])],[]⟩) (fun i=>ZK i fun j=>∀e,l[j]? =some e->decide (e.txn=v.txn)=false) ?_ TP ?_
 ·simp-dsimp
 ·intro i hi hq;simp-dsimp[Fz];refine⟨fun Z2=>?_,fun X9=>?_⟩
  ·obtain⟨e,he⟩:=Zr Z2;have hw:=Zk (n:=(i:Int)+1) (by omega);simp-dsimp[he,YB];refine⟨b5y,PH (b6y e v) (by simp) (by simp) (by simp) ?_⟩
   by_cases hf:e.txn=v.txn
   ·have:=Cq (p:=fun x:Vs=>decide (x.txn=v.txn)) he (by simpa using hf) hq;simp-dsimp[hf,this]
   ·simp-dsimp[hf,hw];exact⟨Z2,ZK.succ (fun j hj y hy=>by simpa using hq j hj y hy) fun y hy=>by rw[he]at hy;cases hy;exact hf⟩
  ·rw[Di (HQ X9 hq)]
theorem b8y(table:Int)(k:Vl)(v:Vs)(Y8:HK es)(hc:(Zu es os table k).length<2^42):ZX prog true Lc [.iv (Yv es os),vi table,k.av,v.av] [] (vi (Yo es os table k v)) []:=by
 refine YG lD (by simp) (by decide) rfl ?_;simp-dsimp[a3c];refine Y6 (b2y es os table k v Y8) rfl (by simp) (by simp) (by simp) (by simp) ?_;unfold Yo
 cases hr:WK es table k v with
 |none=>simp-dsimp
 |some r=>
  simp-dsimp;refine Y6 (b3y es os table k) rfl (by simp) (by simp) (by simp) (by simp) ?_;simp-dsimp;refine ZN (b7y (Zu es os table k) (by omega) v) (by simp) (by simp) ?_;simp-dsimp
end
theorem b1G:XV prog K3=true:=by kernel_rfl
theorem b2G{es:List Ev}{table:Int}{k:Vl}{v:Vs}(Y8:HK es):((WK es table k v).getD []).length<2^40:=by
 unfold WK;split
 ·simp
 ·cases h:Wr (Ev.Us v.txn table k v.n) es with
  |none=>simp
  |some e=>exact Y8 e (MS h).1 (b9x (MS h).2)
theorem b3G(es:List Ev)(os:List Ins)(table:Int)(k:Vl){p:Pd}(hp:p.Ok)(v:Vs)(Y8:HK es):
 ZX prog true K3 [v.av, .iv (.pt [Yv es os]), .iv (.pt [ci table]), .iv (.pt k.cells), .iv (.pt p.cells)] [] (vb (Pz es table k p v)) []:=by
 refine YG ly (by simp) (by decide) rfl ?_;simp-dsimp[a8e];refine Y6 (b2y es os table k v Y8) rfl (by simp) (by simp) (by simp) (by simp) ?_;have hl:=b2G (table:=table) (k:=k) (v:=v) Y8
 have hp9:p.cells.length=9:=by rw[Pd.Z8];rfl
 unfold Pz;generalize (WK es table k v).getD []=r at*
 cases r with
 |nil=>
  simp-dsimp[Yp]
 |cons a b=>
  have ZV:0<(Yp (a::b)).length:=by simp
  simp-dsimp;have ht:a1V 9 (p.cells.map AV.iv)=p.cells.map AV.iv:=a0z (by simp[hp9]);refine⟨by omega,?_⟩;refine ZN (d8a hp (a::b) (by omega)) (by simp[ht,Pd.av]) (by simp[Pd.av]) ?_;simp-dsimp
theorem b4G(es:List Ev)(os:List Ins)(table:Int)(k:Vl):0<(Zu es os table k).length:=by
 unfold Zu;split<;>simp[SG]
theorem b5G(es:List Ev)(os:List Ins)(table:Int)(k:Vl)(W8:Int){p:Pd}(hp:p.Ok)(Y8:HK es)(hc:(Zu es os table k).length<2^42):
 ZX prog true Lb [.iv (Yv es os),vi table,k.av,vi W8,p.av] [] (vb (Vh es os table k W8 p)) []:=by
 refine YG lx (by simp) (by decide) rfl ?_
 have h1:=fun v=>b3G es os table k hp v Y8
 have LL:=b3y es os table k
 have TJ:Vh es os table k W8 p=if W8<1\/(Zu es os table k).length<=W8 then false else Pz es table k p (((Zu es os table k)[(W8-1).toNat]?).getD ⟨0,0⟩) != Pz es table k p (((Zu es os table k)[W8.toNat]?).getD ⟨0,0⟩):=rfl
 generalize Vh es os table k W8 p=res at*;generalize Zu es os table k=l at*;simp-dsimp[a5c,Pd.Z5,Yv];refine Y6 LL rfl (by simp[Yv]) (by simp) (by simp) (by simp) ?_
 by_cases p1:W8<1
 ·rw[if_pos (.inl p1)]at TJ;subst TJ;simp-dsimp[p1]
 ·by_cases p2:(l.length:Int)<=W8
  ·rw[if_pos (.inr p2)]at TJ;subst TJ;simp-dsimp[p1,p2]
  ·obtain⟨q,rfl⟩:∃q:Nat,W8=((q+1:Nat):Int):=⟨(W8-1).toNat,by omega⟩;obtain⟨x,hx⟩:∃x,l[q]? =some x:=Zr (by omega);obtain⟨y,hy⟩:∃y,l[q+1]? =some y:=Zr (by omega);have hw:=Zk (n:=((q+1:Nat):Int)-1) (by omega)
   have hq:((q+1:Nat):Int)-1=q:=by omega
   rw[if_neg (by omega),hq,c4c,c4c,hx,hy]at TJ;rw[hq]at hw;subst TJ
   have p1':¬((q:Int)+1<1):=by omega
   have p2':¬((l.length:Int)<=(q:Int)+1):=by omega
   have p0:(0:Int)<=(q:Int)+1:=by omega
   have Uq:IntKind.i64.wrap (q:Int)=q:=hw;simp-dsimp[p1',p2',p0,Uq,hx,hy,YB];refine⟨⟨b1G,PH (h1 x) (by simp) (by simp[Yv,Pd.Z8]) (by simp) ?_⟩,?_⟩
   ·simp-dsimp[YB];refine⟨b1G,PH (h1 y) (by simp) (by simp[Yv,Pd.Z8]) (by simp) ?_⟩;simp-dsimp
   ·refine⟨b1G,PH (h1 x) (by simp) (by simp[Yv,Pd.Z8]) (by simp) ?_⟩;simp-dsimp;refine⟨b1G,PH (h1 y) (by simp) (by simp[Yv,Pd.Z8]) (by simp) ?_⟩;simp-dsimp
theorem c1i{α:Type}{p:α->Bool}{l:List α}(h:∀(i j:Nat) (a b:α),l[i]? =some a->l[j]? =some b->p a=true->p b=true->i=j):Wr p l=l.find? p:=by
 cases hf:l.find? p with
 |none=>
  rw[b8O]at hf;rw[d7i];intro e he;simpa using hf e he
 |some a=>
  have ha:=List.mem_of_find?_eq_some hf;have hpa:=List.find?_some hf
  cases hl:Wr p l with
  |none=>rw[d7i]at hl;rw[hl a ha]at hpa;cases hpa
  |some b=>
   obtain⟨hb,hpb⟩:=MS hl;obtain⟨i,hi⟩:=a9B ha;obtain⟨j,hj⟩:=a9B hb;have:=h i j a b hi hj hpa hpb;subst this;rw[hi]at hj;exact hj.symm
section
variable{h:Hs}
theorem MT(hw:Zo h){i:Nat}{e:Ev}(he:h.events[i]? =some e):M1 h (h.events.take i) e/\C6 h e:=hw.2.1 i (a5y.1 he).1 e he
theorem c3i(hw:Zo h){i:Nat}{o:Ins}(ho:h.order[i]? =some o):Fl h i o:=hw.2.2 i (a5y.1 ho).1 o ho
theorem c4i(hw:Zo h){i:Nat}{e:Ev}(he:h.events[i]? =some e)(hk:e.kind=3):HV h (h.events.take i) e:=(MT hw he).1.2.2.1 hk
theorem c5i{es:List Ev}{i j:Nat}(Xu:i<=j)(txn table:Int)(k:Vl):Yk (es.take i) txn table k<=Yk (es.take j) txn table k:=by
 unfold Yk;exact((List.take_sublist_take_left Xu).filter _).length_le
theorem c6i{es:List Ev}{i j:Nat}{e:Ev}(he:es[i]? =some e)(Xu:i<j){txn table:Int}{k:Vl}(hw:e.Sw txn table k=true):Yk (es.take i) txn table k<Yk (es.take j) txn table k:=by
 have h1:=d7P he txn table k;rw[if_pos hw]at h1;have h2:=c5i (es:=es) (i:=i+1) (j:=j) Xu txn table k;omega
theorem mR{e:Ev}{txn table:Int}{k:Vl}(h:e.Sw txn table k=true):e.kind=3/\e.txn=txn/\e.table=table/\e.key=k:=by
 obtain⟨h1,h2,h3,h4,h5,h6⟩:=Ev.Yg.1 h;exact⟨h1,h2,h3,Vl.eq_iff.2 ⟨h4,h5,h6⟩⟩
theorem c8i(hw:Zo h){i:Nat}{e:Ev}(he:h.events[i]? =some e){txn table:Int}{k:Vl}(hk:e.Sw txn table k=true):e.n=Yk (h.events.take i) txn table k+1:=by
 obtain⟨h1,rfl,rfl,rfl⟩:=mR hk;exact(c4i hw he h1).2.1
theorem c9i{e:Ev}{txn table:Int}{k:Vl}{m:Int}:e.Us txn table k m=true↔e.Sw txn table k=true/\e.n=m:=by
 unfold Ev.Us;rw[a3C,decide_eq_true_eq]
theorem c0j(hw:Zo h){txn table:Int}{k:Vl}{m:Int}:∀(i j:Nat) (a b:Ev),h.events[i]? =some a->h.events[j]? =some b->a.Us txn table k m=true->b.Us txn table k m=true->i=j:=by
 intro i j a b hi hj ha hb;rw[c9i]at ha hb;have h1:=c8i hw hi ha.1;have h2:=c8i hw hj hb.1
 rcases c0H i j with g|g|g
 ·have:=c6i hi g ha.1;omega
 ·exact g
 ·have:=c6i hj g hb.1;omega
theorem c1j(hw:Zo h)(txn table:Int)(k:Vl):∀i,i<=h.events.length->HD (h.events.take i) txn table k=Yk (h.events.take i) txn table k:=by
 intro i
 induction i with
 |zero=>intro _;simp[HD,d5i,Yk]
 |succ i ih=>
  intro hi;obtain⟨e,he⟩:=Zr (l:=h.events) (i:=i) (by omega);have h1:=d7P he txn table k
  have WG:h.events.take (i+1)=h.events.take i++[e]:=by rw[a3I,he];rfl
  rw[h1];unfold HD;rw[WG,MX]
  by_cases hk:e.Sw txn table k=true
  ·rw[if_pos hk,if_pos hk];have:=c8i hw he hk;simp[this]
  ·rw[if_neg hk,if_neg hk];have:=ih (by omega);unfold HD at this;rw[this];simp
theorem c2j(hw:Zo h)(txn table:Int)(k:Vl){m:Int}:∀i,i<=h.events.length->1<=m->m<=Yk (h.events.take i) txn table k->∃j e,j<i/\h.events[j]? =some e/\e.Us txn table k m=true:=by
 intro i
 induction i with
 |zero=>intro _ h1 h2;simp[Yk]at h2;omega
 |succ i ih=>
  intro hi h1 h2;obtain⟨e,he⟩:=Zr (l:=h.events) (i:=i) (by omega);have h3:=d7P he txn table k
  by_cases hm:m<=Yk (h.events.take i) txn table k
  ·obtain⟨j,x,g1,g2,g3⟩:=ih (by omega) h1 hm;exact⟨j,x,by omega,g2,g3⟩
  ·by_cases hk:e.Sw txn table k=true
   ·rw[if_pos hk]at h3;have:=c8i hw he hk;exact⟨i,e,by omega,he,c9i.2 ⟨hk,by omega⟩⟩
   ·rw[if_neg hk]at h3;omega
theorem c3j(hw:Zo h){txn table:Int}{k:Vl}{m:Int}{e:Ev}(he:e∈h.events)(hn:e.Us txn table k m=true):1<=m/\m<=Yk h.events txn table k:=by
 obtain⟨i,hi⟩:=a9B he;obtain⟨h1,rfl⟩:=c9i.1 hn;have h2:=c8i hw hi h1;have h3:=c6i hi (j:=h.events.length) (a5y.1 hi).1 h1;rw[a6J]at h3;omega
theorem c4j(hw:Zo h)(txn table:Int)(k:Vl):HD h.events txn table k=Yk h.events txn table k:=by
 have:=c1j hw txn table k h.events.length (a8F _);rwa [a6J]at this
theorem c5j(hw:Zo h)(txn table:Int)(k:Vl)(m:Int):Wr (Ev.Us txn table k m) h.events=h.events.find? (Ev.Us txn table k m):=c1i (c0j hw)
theorem c6j(hw:Zo h){txn table:Int}{k:Vl}{m:Int}:(Wr (Ev.Us txn table k m) h.events).isSome=true↔1<=m/\m<=Yk h.events txn table k:=by
 constructor
 ·intro hs;obtain⟨e,he⟩:=c3t.1 hs;obtain⟨h1,h2⟩:=MS he;exact c3j hw h1 h2
 ·rintro⟨h1,h2⟩;obtain⟨j,e,g1,g2,g3⟩:=c2j hw txn table k h.events.length (a8F _) h1 (by rw[a6J];exact h2)
  cases hl:Wr (Ev.Us txn table k m) h.events with
  |some x=>rfl
  |none=>rw[d7i]at hl;rw[hl e (a6y g2)]at g3;cases g3
theorem c7j{v:Vl}(h:v.right=true):v.s.size<2^63:=by
 unfold Vl.right at h;split at h
 ·simp only[a3C,decide_eq_true_eq]at h;omega
 ·simp only[decide_eq_true_eq]at h;rw[h];decide
theorem c8j(hw:Zo h){e:Ev}(he:e∈h.events)(hk:e.kind=3):e.row.length<2^40/\∀x,x∈e.row->x.s.size<2^63:=by
 obtain⟨i,hi⟩:=a9B he
 rcases(c4i hw hi hk).2.2 with h1|⟨t,h1,h2,_⟩
 ·rw[h1];simp
 ·obtain⟨f1,f2,f3⟩:=h2;have:t.length<=4:=f1.2;refine⟨by omega,fun x hx=>?_⟩;obtain⟨j,hj⟩:=a9B hx;have SJ:=(a5y.1 hj).1;obtain⟨c,hc⟩:=Zr (l:=t) (i:=j) (by omega);exact c7j (f3 j SJ x c hj hc).2
end
instance h2b {α:Type} {l:List α} {i:Nat} {p:α->Prop} [∀x,Decidable (p x)]:Decidable (∀x,l[i]? =some x->p x):=
 match h:l[i]? with
 |none=> .isTrue fun x hx=>by cases hx
 |some y=>if hp:p y then .isTrue fun x hx=>by cases hx;exact hp else .isFalse fun g=>hp (g y rfl)
instance h3b {α:Type} {l:List α} {i:Nat} {p:α->Prop} [∀x,Decidable (p x)]:Decidable (∃x,l[i]? =some x/\p x):=
 match h:l[i]? with
 |none=> .isFalse fun⟨x,hx,_⟩=>by cases hx
 |some y=>if hp:p y then .isTrue ⟨y,rfl,hp⟩else .isFalse fun⟨x,hx,g⟩=>by cases hx;exact hp g
instance g9m {n:Nat} {p:Nat->Prop} [∀j,Decidable (p j)]:Decidable (ZK n p):=by unfold ZK;infer_instance
instance {es:List Ev} {t:Int}:Decidable (On es t):=by unfold On;infer_instance
instance {es:List Ev} {t:Int}:Decidable (MW es t):=by unfold MW;infer_instance
instance {es:List Ev} {e:Ev}:Decidable (Fo es e):=by unfold Fo;infer_instance
instance {t:Tb}:Decidable (WB t):=by unfold WB;infer_instance
instance {h:Hs} {table:Int} {k:Vl}:Decidable (Se h table k):=by unfold Se;infer_instance
instance {es:List Ev} {table:Int} {k:Vl} {v:Vs}:Decidable (M5 es table k v):=by unfold M5;infer_instance
instance {t:Tb} {r:List Vl} {i:Nat}:Decidable (∀(v:Vl) (c:Bool),r[i]? =some v->t[i]? =some c->v.text=c/\v.right=true):=
 decidable_of_iff (∀v,r[i]? =some v->∀c,t[i]? =some c->v.text=c/\v.right=true) ⟨fun h v c a b=>h v a c b,fun h v a c b=>h v c a b⟩
instance {t:Tb} {r:List Vl} {i:Nat}:Decidable (e2k t r i):=by unfold e2k;infer_instance
instance {t:Tb} {r:List Vl}:Decidable (Fits t r):=by unfold Fits;infer_instance
instance {h:Hs} {es:List Ev} {e:Ev}:Decidable (HV h es e):=by unfold HV;infer_instance
instance {h:Hs} {es:List Ev} {e:Ev}:Decidable (Kw h es e):=by unfold Kw;infer_instance
noncomputable instance {h:Hs} {es:List Ev} {e:Ev}:Decidable (d7t h es e):=b8I _
noncomputable instance {h:Hs} {es:List Ev} {e:Ev}:Decidable (M1 h es e):=by unfold M1;infer_instance
instance {table:Int} {k:Vl} {o:Ins}:Decidable (o.S2 table k):=by unfold Ins.S2;infer_instance
instance {h:Hs} {e:Ev}:Decidable (C6 h e):=by unfold C6;infer_instance
instance {h:Hs} {a:Nat} {o:Ins}:Decidable (Fl h a o):=by unfold Fl;infer_instance
instance {h:Hs}:Decidable (h.WD):=by unfold Hs.WD;infer_instance
instance {h:Hs}:Decidable (lp h):=by unfold lp;infer_instance
noncomputable instance {h:Hs}:Decidable (Zo h):=by unfold Zo;infer_instance
def k5:Vl:=⟨false,5,⟨#[]⟩⟩
def Ic:Pd:= .mk 0 0 Vl.zero Vl.zero []
def EJ(t l:Int):Ev:=⟨t,1,l,0,Vl.zero,⟨0,0⟩,0,[],Ic,[],false⟩
def nV(t n:Int)(r:List Vl):Ev:=⟨t,3,0,0,k5,⟨0,0⟩,n,r,Ic,[],false⟩
def EI(t:Int):Ev:=⟨t,5,0,0,Vl.zero,⟨0,0⟩,0,[],Ic,[],false⟩
theorem d1v:Ic.Ok:= .mk _ (by decide) (by decide) (by decide) fun q hq=>by cases hq
theorem d2v{h:Hs}(hw:Zo h):HK h.events:=fun _ he hk=>(c8j hw he hk).1
theorem f0R(t l:Int):(EJ t l).cells=[ci t,ci 1,ci l,ci 0,cb false,ci 0, .v (.string ⟨#[]⟩),ci 0,ci 0,ci 0, .Z6 3 [],ci 0,ci 0,cb false,ci 0, .v (.string ⟨#[]⟩),cb false,ci 0, .v (.string ⟨#[]⟩), .Z6 9 [], .Z6 5 [],cb false]:=by rw[Ev.Z8];rfl
theorem f1R(t:Int):(EI t).cells=[ci t,ci 5,ci 0,ci 0,cb false,ci 0, .v (.string ⟨#[]⟩),ci 0,ci 0,ci 0, .Z6 3 [],ci 0,ci 0,cb false,ci 0, .v (.string ⟨#[]⟩),cb false,ci 0, .v (.string ⟨#[]⟩), .Z6 9 [], .Z6 5 [],cb false]:=by rw[Ev.Z8];rfl
theorem f2R(t n:Int)(r:List Vl):(nV t n r).cells=[ci t,ci 3,ci 0,ci 0,cb false,ci 5, .v (.string ⟨#[]⟩),ci 0,ci 0,ci n, .Z6 3 (Yp r),ci 0,ci 0,cb false,ci 0, .v (.string ⟨#[]⟩),cb false,ci 0, .v (.string ⟨#[]⟩), .Z6 9 [], .Z6 5 [],cb false]:=by rw[Ev.Z8];rfl
theorem c8V{α:Type}[DecidableEq α]:∀{l r:List α},l.Nodup->(∀x,x∈l->x∈r)->l.length<=r.length
 | [],_,_,_=>c0t _
 |a::l,r,hn,h=>by
  have hn:=List.nodup_cons.1 hn;have ha:=h a a4E
  have:=c8V (l:=l) (r:=r.erase a) hn.2 fun x hx=>by
   refine(List.mem_erase_of_ne ?_).2 (h x (a9C _ hx));rintro rfl;exact hn.1 hx
  rw[List.length_erase_of_mem ha]at this;have:=List.length_pos_of_mem ha;simp only[a4S];omega
theorem c9V{α:Type}{l:List α}(h:∀(i:Nat) (t:α),l[i]? =some t->t∉l.take i):l.Nodup:=by
 unfold d0j;rw[b5K];intro i j hi hj Xu he;refine h j l[j] (a4G hj) (a6y (i:=i) ?_);rw[b8t Xu,a4G hi,he]
section
variable{h:Hs}
theorem c0W{es:List Ev}{txn table:Int}{k:Vl}(hw:Yk es txn table k≠0):∃e,e∈es/\e.Sw txn table k=true:=by
 unfold Yk at hw;obtain⟨e,he⟩:=List.exists_mem_of_length_pos (Nat.pos_of_ne_zero hw);rw[a2E]at he;exact⟨e,he.1,he.2⟩
theorem c1W(hw:Zo h){o:Ins}(ho:o∈h.order):o.ZU.Nodup:=by
 obtain⟨i,hi⟩:=a9B ho
 exact c9V fun j t hj=>((c3i hw hi).2.1 j (a5y.1 hj).1 t hj).2.2
theorem c2W(hw:Zo h){o:Ins}(ho:o∈h.order){t:Int}(ht:t∈o.ZU):Xd h.events t=5/\Yk h.events t o.table o.key≠0:=by
 obtain⟨i,hi⟩:=a9B ho;obtain⟨j,hj⟩:=a9B ht;have:=(c3i hw hi).2.1 j (a5y.1 hj).1 t hj;exact⟨this.1,this.2.1⟩
theorem c3W(hw:Zo h){o:Ins}(ho:o∈h.order):o.ZU.length<=h.events.length:=by
 have:=c8V (l:=o.ZU) (r:=h.events.map Ev.txn) (c1W hw ho) fun t ht=>by
  obtain⟨e,he,hk⟩:=c0W (c2W hw ho ht).2;exact a0E.2 ⟨e,he,(mR hk).2.1⟩
 simpa using this
theorem c4W(hw:Zo h){e:Ev}(he:e∈h.events):1<=e.txn:=by
 obtain⟨i,hi⟩:=a9B he;exact(MT hw hi).1.1.1
theorem mS{table:Int}{k:Vl}{o:Ins}:o.Sj table k=true↔o.S2 table k:=by
 unfold Ins.Sj Ins.S2;rw[a3C,decide_eq_true_eq,decide_eq_true_eq]
theorem c6W(hw:Zo h){table:Int}{k:Vl}:∀(i j:Nat) (a b:Ins),h.order[i]? =some a->h.order[j]? =some b->a.Sj table k=true->b.Sj table k=true->i=j:=by
 have key:∀(i j:Nat) (a b:Ins),i<j->h.order[i]? =some a->h.order[j]? =some b->a.Sj table k=true->b.Sj table k=true->False:=by
  intro i j a b Xu hi hj ha hb;rw[mS]at ha hb;refine(c3i hw hj).1 a (a6y (i:=i) ?_) ⟨ha.1.trans hb.1.symm,ha.2.trans hb.2.symm⟩;rw[b8t Xu];exact hi
 intro i j a b hi hj ha hb
 rcases c0H i j with g|g|g
 ·exact(key i j a b g hi hj ha hb).elim
 ·exact g
 ·exact(key j i b a g hj hi hb ha).elim
theorem om(hw:Zo h)(table:Int)(k:Vl):(Zu h.events h.order table k).length<=h.events.length+1:=by
 unfold Zu
 cases ho:Wr (Ins.Sj table k) h.order with
 |none=>simp
 |some o=>
  have:=c3W hw (MS ho).1;simp[SG];omega
end
theorem e6s{h:Hs}(ZY:h.Ok)(XM:h.events.length<2^40):(Zo h/\ZX prog false U0 [h.av] [] (.iv (Yv h.events h.order)) [])\/(¬Zo h/\ZX prog false U0 [h.av] [] g4x []):=by
 by_cases hw:Zo h
 ·exact .inl ⟨hw,c9N ZY XM hw (d2v hw) fun o ho=>c3I (c3W hw ho) XM⟩
 ·exact .inr ⟨hw,c8N ZY XM hw⟩
theorem e7s{h:Hs}(hw:Zo h){table:Int}{k:Vl}{v:Vs}:∀x,x∈(WK h.events table k v).getD []->x.s.size<2^63:=by
 unfold WK;split
 ·simp
 ·cases hl:Wr (Ev.Us v.txn table k v.n) h.events with
  |none=>simp
  |some e=>exact(c8j hw (MS hl).1 (b9x (MS hl).2)).2
@[simp]def kB:=[wx 1 0,wb 2 false]
@[simp]def kA:=[w0 9 RF,wm 3 9]
@[simp]def kz:=[wm 10 3,wu 11 10]
@[simp]def ky:=[wb 2 false]
@[simp]def kv:=[ws 12 1 3,Y1 13 Lv 12,wm 4 13]
@[simp]def ku:=[wm 14 4,wu 15 14]
@[simp]def kt:=[wb 2 true]
@[simp]def kr:=[ws 17 1 3,Y1 18 Qg 17,wm 16 18,we 19 0 16,we 20 1 16,wm 5 19,wm 6 20]
@[simp]def kq:=[ws 22 1 3,Y1 23 Lu 22,wm 21 23,we 24 0 21,we 25 1 21,wm 7 24,wm 8 25]
@[simp]def E3:VT:=
 V (U1 33 31 Qf 32)<|V (qs 34 31 1 3)<|V (U1 35 31 Ls 34)<|V (U2 36 31 X6 33 35)<|yp 37 31 36<|ym 38 37<|V (Ym 39 38 6)<|V (Ym 40 38 8)<|V (og 41 38 true (.beq false (T 39) (T 40)))<|yp 42 38 41<|ym 43 42<|V (Ym 44 43 5)<|V (Ym 45 43 7)<|V (U2 46 43 RE 44 45)<|yp 47 43 46<|ym 2 47<|.done
@[simp]def E0:VT:=
 V (qs 34 31 1 3)<|V (U1 33 31 Qf 32)<|V (U1 35 31 Ls 34)<|V (U2 36 31 X6 33 35)<|yp 37 31 36<|ym 38 37<|V (Ym 39 38 6)<|V (Ym 40 38 8)<|V (og 41 38 true (.beq false (T 39) (T 40)))<|yp 42 38 41<|ym 43 42<|V (Ym 44 43 5)<|V (Ym 45 43 7)<|V (U2 46 43 RE 44 45)<|yp 47 43 46<|ym 2 47<|.done
@[simp]def kp:VT:=
 V1 27 VL 26<|Ys 28 1 3<|V1 29 Lt 28<|oc 30 (.beq false (T 27) (T 29))<|ym 31 30<|V (qs 32 31 1 3)<|.alt (E3) (E0)
@[simp]def ko:VT:=
 Ys 28 1 3<|V1 27 VL 26<|V1 29 Lt 28<|oc 30 (.beq false (T 27) (T 29))<|ym 31 30<|V (qs 32 31 1 3)<|.alt (E3) (E0)
@[simp]def kn:VT:=
 Ys 26 1 3<|.alt (kp) (ko)
def a9q:Z9:=(QR kB (QR kA (Q (QR kz (CR 11 ky)) (QR kv (Q (QR ku (CR 15 kt)) (QR kr (QR kq (Q (.any kn) .ret))))))))
theorem km:ZG prog oL=some (48,a9q,[.tmp 2]):=by kernel_rfl
@[simp]def kj:=[wx 1 0,wb 2 false]
@[simp]def kh:=[w0 9 RF,wm 3 9]
@[simp]def kg:=[wm 10 3,wu 11 10]
@[simp]def kf:=[wb 2 false]
@[simp]def ke:=[ws 12 1 3,Y1 13 WN 12,wm 4 13]
@[simp]def ka:=[wm 14 4,wu 15 14]
@[simp]def j9:=[wb 2 true]
@[simp]def j8:=[ws 17 1 3,Y1 18 Qg 17,wm 16 18,we 19 0 16,we 20 1 16,wm 5 19,wm 6 20]
@[simp]def j7:=[ws 21 1 3,Y1 22 Wb 21,wm 7 22]
@[simp]def j6:=[ws 23 1 3,Y1 24 Qf 23,wm 8 24]
@[simp]def Ca:=[ws 25 1 3,Y1 26 VL 25,wm 27 26,Ym 28 27 6,yu 29 27 28,wp 30 27 29,wm 31 30,qm 32 31 8,Yn 33 31 32,qc 34 31 .gtr 33 0,qm 35 31 34,Ym 36 35 8,U1 37 35 N9 36,yu 38 35 37,qp 39 31 35 38,wq 40 31 39]
@[simp]def B9:=[wb 2 false]
@[simp]def B8:=[ws 41 1 3,Y1 42 U4 41,wu 43 42]
@[simp]def B7:=[wm 44 6,wu 45 44,wm 46 45,Ym 47 46 5,yn 48 46 47,Yc 49 46 .eql 48 0,wp 50 46 49,wm 51 50,Ym 52 51 7,yn 53 51 52,Yc 54 51 .eql 53 0,wp 55 51 54,wm 56 55,Ym 57 56 8,yn 58 56 57,Yc 59 56 .eql 58 0,wp 60 56 59,wm 2 60]
@[simp]def B6:=[wm 61 6,wm 62 8,wn 63 62,wc 64 .eql 63 0,oo 65 (.beq true (T 61) (T 64))]
@[simp]def B5:=[wb 2 false]
@[simp]def B4:=[wm 66 6,wu 67 66,wm 68 67,qm 69 68 7,qm 70 68 5,X2 71 68 GH 69 70,qm 72 68 71,Ym 73 72 5,yn 74 72 73,qs 75 72 1 3,U1 76 72 SQ 75,yn 77 72 76,Yt 78 72 .eql 74 77,qp 79 68 72 78,wq 80 68 79,wm 2 80]
def a0r:Z9:=(QR kj (QR kh (Q (QR kg (CR 11 kf)) (QR ke (Q (QR ka (CR 15 j9)) (QR j8 (QR j7 (QR j6 (Q (QR Ca (CR 40 B9)) (Q (QR B8 (CR 43 B7)) (Q (QR B6 (CR 65 B5)) (QR B4 .ret))))))))))))
theorem j0:ZG prog oK=some (81,a0r,[.tmp 2]):=by kernel_rfl
@[simp]def jZ:=[wx 3 0,wb 6 false]
@[simp]def jY:=[w0 17 RF,wm 7 17]
@[simp]def jX:=[wm 18 7,wu 19 18]
@[simp]def jW:=[wb 6 false]
@[simp]def jV:=[ws 20 3 3,Y1 21 WN 20,wm 8 21]
@[simp]def jU:=[wm 22 8,wu 23 22,wm 24 23,Ws 25 24 3 3,X1 26 24 U4 25,Yu 27 24 26,wq 28 24 27,wm 29 28,qm 30 29 2,qc 31 29 .lss 30 1,wq 32 29 31,wm 33 32,qm 34 33 2,Ws 35 33 3 3,qm 36 33 1,X2 37 33 Uy 35 36,qt 38 33 .gtr 34 37,wq 39 33 38]
@[simp]def jT:=[wb 6 true]
@[simp]def jS:=[ws 40 3 3,oo 9 (.alloc [.nil 1, .nil 22, .nil 5]),wo 9 40 3]
@[simp]def jR:=[yf 41 1 9,on (.st (T 41) (.const (.slice none 0 0)) 1)]
@[simp]def jQ:=[wk 10 0]
@[simp]def B3:=[wm 42 10,yf 43 1 3,wl 44 43,wn 45 44,wt 46 .lss 42 45]
@[simp]def B1:=[yf 49 1 3,wl 50 49,wm 51 10,wi 52 22 50 51,ws 53 52 22,oo 11 (.alloc [zi,zi,zi,zi,zb,zi,zs,zi,zi,zi, .nil 3,zi,zi,zb,zi,zs,zb,zi,zs, .nil 9, .nil 5,zb]),wo 11 53 22]
@[simp]def B0:=[yf 54 1 11,wl 55 54,wc 56 .eql 55 1,wm 57 56,qf 58 57 0 11,Yl 59 57 58,Ym 60 57 1,Yt 61 57 .eql 59 60,wp 62 57 61]
@[simp]def BZ:=[wm 63 2,yf 64 2 11,wo 64 63 1]
@[simp]def BY:=[yf 65 1 9,wl 66 65,ws 67 11 22,oo 68 (.lit 22 1 [(0,(T 67))]),oo 69 (.app 22 248 (T 66) (T 68)),yf 70 1 9,wo 70 69 1]
@[simp]def BX:=[wm 47 10,wc 48 .add 47 1,wm 10 48]
def WJ:Z9:=
 (Q (QR B3 (CX 46 0)) (Q (.block 1 (QR B1 (Q (QR B0 (CT 62 (R BZ) .skip)) (R BY)))) (R BX)))
@[simp]def BW:=[ws 71 3 3,Y1 72 Wb 71,wm 12 72]
@[simp]def BV:=[ws 73 9 3,Y1 74 Wb 73,wm 13 74]
@[simp]def BU:=[wk 14 0]
@[simp]def BT:=[wm 75 14,wm 76 13,wn 77 76,wt 78 .lss 75 77]
@[simp]def BS:=[wb 15 false]
@[simp]def BR:=[wk 16 0]
@[simp]def BQ:=[wm 81 16,wm 82 12,wn 83 82,wt 84 .lss 81 83]
@[simp]def BP:VT:=
 ym 87 15<|ym 88 87<|V (qm 89 88 12)<|V (qm 90 88 16)<|V (qi 91 88 8 89 90)<|V (Ws 92 88 91 8)<|V (qm 93 88 13)<|V (qm 94 88 14)<|V (qi 95 88 8 93 94)<|V (Ws 96 88 95 8)<|V (og 97 88 false (.eqs false [.i .i64, .i .i64, .i .i64, .i .i64, .b, .i .i64, .s, .b] (T 92) (T 96)))<|vq 98 88 97<|ym 15 98<|.done
@[simp]def BO:=[wm 85 16,wc 86 .add 85 1,wm 16 86]
def WI:Z9:=
 (Q (QR BQ (CX 84 4)) (Q (.block 5 (.any BP)) (R BO)))
@[simp]def BN:=[wm 99 15,wu 100 99]
@[simp]def BM:=[wb 6 false]
@[simp]def BL:=[wm 79 14,wc 80 .add 79 1,wm 14 80]
def TD:Z9:=
 (Q (QR BT (CX 78 2)) (Q (.block 3 (QR BS (Q (QR BR (.block 4 (.loop WI))) (QR BN (CR 100 BM))))) (R BL)))
@[simp]def BK:=[ws 101 3 3,Y1 102 VL 101,wu 103 102,wm 104 103,Ws 105 104 9 3,X1 106 104 VL 105,wq 107 104 106,wm 6 107]
def a1r:Z9:=(QR jZ (QR jY (Q (QR jX (CR 19 jW)) (QR jV (Q (QR jU (CR 39 jT)) (QR jS (QR jR (Q (QR jQ (.block 0 (.loop WJ))) (QR BW (QR BV (Q (QR BU (.block 2 (.loop TD))) (QR BK .ret))))))))))))
theorem jP:ZG prog oJ=some (108,a1r,[.tmp 6]):=by kernel_rfl
@[simp]def jO:=[wx 1 0,wb 2 false]
@[simp]def jN:=[w0 5 RF,wm 3 5]
@[simp]def jM:=[wm 6 3,wu 7 6]
@[simp]def jL:=[wb 2 false]
@[simp]def jK:=[ws 8 1 3,Y1 9 WN 8,wm 4 9]
@[simp]def jJ:=[wm 10 4,wu 11 10]
@[simp]def jI:=[wb 2 true]
@[simp]def EZ:VT:=
 V (U1 19 17 Qe 18)<|V (qs 20 17 1 3)<|V (U1 21 17 Lr 20)<|V (U2 22 17 X6 19 21)<|yp 23 17 22<|ym 2 23<|.done
@[simp]def EY:VT:=
 V (qs 20 17 1 3)<|V (U1 19 17 Qe 18)<|V (U1 21 17 Lr 20)<|V (U2 22 17 X6 19 21)<|yp 23 17 22<|ym 2 23<|.done
@[simp]def jH:VT:=
 V1 13 Wb 12<|Ys 14 1 3<|V1 15 Vn 14<|V2 16 X6 13 15<|ym 17 16<|V (qs 18 17 1 3)<|.alt (EZ) (EY)
@[simp]def jG:VT:=
 Ys 14 1 3<|V1 13 Wb 12<|V1 15 Vn 14<|V2 16 X6 13 15<|ym 17 16<|V (qs 18 17 1 3)<|.alt (EZ) (EY)
@[simp]def jF:VT:=
 Ys 12 1 3<|.alt (jH) (jG)
def a2r:Z9:=(QR jO (QR jN (Q (QR jM (CR 7 jL)) (QR jK (Q (QR jJ (CR 11 jI)) (Q (.any jF) .ret))))))
theorem jE:ZG prog oI=some (24,a2r,[.tmp 2]):=by kernel_rfl
@[simp]def jD:=[wx 2 0,wb 4 false]
@[simp]def jC:=[w0 13 RF,wm 5 13]
@[simp]def jB:=[wm 14 5,wu 15 14]
@[simp]def jA:=[wb 4 false]
@[simp]def jz:=[ws 16 2 3,Y1 17 Lv 16,wm 6 17]
@[simp]def jy:=[wm 18 6,wu 19 18]
@[simp]def jx:=[wb 4 true]
@[simp]def jw:=[wz 7 22]
@[simp]def jv:=[wk 8 0]
@[simp]def ju:=[wm 20 8,yf 21 1 2,wl 22 21,wn 23 22,wt 24 .lss 20 23]
@[simp]def BJ:=[yf 27 1 2,wl 28 27,wm 29 8,wi 30 22 28 29,ws 31 30 22,oo 9 (.alloc [zi,zi,zi,zi,zb,zi,zs,zi,zi,zi, .nil 3,zi,zi,zb,zi,zs,zb,zi,zs, .nil 9, .nil 5,zb]),wo 9 31 22]
@[simp]def BI:=[yf 32 1 9,wl 33 32,wc 34 .eql 33 1]
@[simp]def BH:=[yf 35 2 9,on (.st (T 35) (K 1) 1)]
@[simp]def BG:=[wm 36 1]
@[simp]def BF:=[yf 37 2 9,on (.st (T 37) (K 5) 1)]
@[simp]def BE:=[wm 38 7,ws 39 9 22,oo 40 (.lit 22 1 [(0,(T 39))]),oo 41 (.app 22 248 (T 38) (T 40)),wm 7 41]
@[simp]def BD:=[wm 25 8,wc 26 .add 25 1,wm 8 26]
def TX:Z9:=
 (Q (QR ju (CX 24 0)) (Q (.block 1 (QR BJ (Q (QR BI (CT 34 (QR BH (QR BG (CT 36 (R BF) .skip))) .skip)) (R BE)))) (R BD)))
@[simp]def BB:=[wm 42 7,yf 43 1 2,wo 43 42 1]
@[simp]def BA:=[ws 44 2 3,Y1 45 U4 44,wu 46 45]
@[simp]def Bz:=[ws 47 2 3,Y1 48 VL 47,wu 49 48,wm 4 49]
@[simp]def By:=[ws 50 2 3,Y1 51 Wb 50,wm 10 51]
@[simp]def Bx:=[wm 52 1]
@[simp]def Bw:=[ws 53 2 3,Y1 54 Oc 53,wn 55 54,wc 56 .gtr 55 0,wm 57 56,Ws 58 57 2 3,X1 59 57 Oa 58,Yn 60 57 59,qc 61 57 .gtr 60 0,wq 62 57 61,wm 63 62,Ws 64 63 2 3,og 65 63 false (.call Qi [(T 64),(K 1)]),qc 66 63 .geq 65 0,wq 67 63 66,wm 68 67,Ws 69 68 2 3,og 70 68 false (.call Qh [(T 69),(K 1)]),qc 71 68 .geq 70 0,wq 72 68 71,wm 11 72]
@[simp]def Bv:=[wm 73 10,ws 74 2 3,Y1 75 Wc 74,Y2 76 X6 73 75,wm 77 76,qs 78 77 2 3,U1 79 77 Qe 78,Ym 80 77 10,U2 81 77 X6 79 80,wp 82 77 81,wm 83 82,qs 84 83 2 3,U1 85 83 VL 84,Ym 86 83 11,yu 87 83 86,og 88 83 true (.beq false (T 85) (T 87)),wp 89 83 88,wm 4 89]
@[simp]def Bu:=[wk 12 0]
@[simp]def Bt:=[wm 90 12,wm 91 10,wn 92 91,wt 93 .lss 90 92]
@[simp]def Bs:=[wm 96 10,wm 97 12,wi 98 8 96 97,yf 99 2 98,wl 100 99,wc 101 .neq 100 1]
@[simp]def Br:=[wb 4 false]
@[simp]def Bq:=[wm 94 12,wc 95 .add 94 1,wm 12 95]
def PI:Z9:=
 (Q (QR Bt (CX 93 2)) (Q (.block 3 (QR Bs (CR 101 Br))) (R Bq)))
@[simp]def jt:VT:=
 V (U1 108 106 VL 107)<|V (qs 109 106 2 3)<|V (U1 110 106 Qk 109)<|V (yn 111 106 110)<|V (Yc 112 106 .eql 111 0)<|V (og 113 106 true (.beq false (T 108) (T 112)))<|yp 114 106 113<|ym 4 114<|.done
@[simp]def jr:VT:=
 V (qs 109 106 2 3)<|V (U1 108 106 VL 107)<|V (U1 110 106 Qk 109)<|V (yn 111 106 110)<|V (Yc 112 106 .eql 111 0)<|V (og 113 106 true (.beq false (T 108) (T 112)))<|yp 114 106 113<|ym 4 114<|.done
@[simp]def Bp:VT:=
 Ys 102 2 3<|V1 103 Qe 102<|vn 104 103<|yc 105 .eql 104 0<|ym 106 105<|V (qs 107 106 2 3)<|.alt (jt) (jr)
def a3r:Z9:=(QR jD (QR jC (Q (QR jB (CR 15 jA)) (QR jz (Q (QR jy (CR 19 jx)) (QR jw (Q (QR jv (.block 0 (.loop TX))) (QR BB (Q (QR BA (CR 46 Bz)) (QR By (Q (QR Bx (CT 52 (QR Bw (QR Bv .ret)) .skip)) (Q (QR Bu (.block 2 (.loop PI))) (Q (.any Bp) .ret)))))))))))))
theorem mP:ZG prog oU=some (115,a3r,[.tmp 4]):=by kernel_rfl
@[simp]def jq:=[wb 0 false]
@[simp]def jo:=[oo 5 (.call RD [(K 5),(K 1)]),Y1 6 Wb 5,wm 1 6]
@[simp]def jn:=[oo 7 (.call RD [(K 1),(K 5)]),Y1 8 Wb 7,wm 2 8]
@[simp]def jm:=[oo 10 (.call RD [(K 5),(K 1)]),Y1 11 Qg 10,wm 9 11,we 12 0 9,we 13 1 9,wm 3 12,wm 4 13]
@[simp]def jl:=[wm 14 1,wn 15 14,wc 16 .eql 15 1,wm 17 16,Ym 18 17 1,og 19 17 true (.ia 8 (T 18) (K 0)),qf 20 17 2 19,Yl 21 17 20,Yc 22 17 .eql 21 4,wp 23 17 22,wm 24 23,Ym 25 24 1,og 26 24 true (.ia 8 (T 25) (K 0)),qf 27 24 1 26,Yl 28 24 27,Yc 29 24 .eql 28 2,wp 30 24 29,wm 31 30,Ym 32 31 2,yn 33 31 32,Yc 34 31 .eql 33 0,wp 35 31 34,wm 36 35,Ym 37 36 4,wp 38 36 37,wm 39 38,Ym 40 39 3,og 41 39 true (.lit 1 2 [(0,(K 1)),(1,(K 2))]),U2 42 39 RE 40 41,wp 43 39 42,wm 44 43,og 45 44 true (.call RD [(K 5),(K 1)]),U1 46 44 VL 45,wp 47 44 46,wm 0 47]
def c6n:Z9:=(QR jq (QR jo (QR jn (QR jm (QR jl .ret)))))
theorem jj:ZG prog RF=some (48,c6n,[.tmp 0]):=by kernel_rfl
@[simp]def ji:=[wx 1 0,wb 2 false]
@[simp]def jh:=[ws 4 1 3,Y1 5 WN 4,wm 3 5]
@[simp]def jg:=[wm 6 3,wm 7 6,qs 8 7 1 3,U1 9 7 Wc 8,yn 10 7 9,Yc 11 7 .leq 10 14,wp 12 7 11,wm 2 12]
def c7n:Z9:=(QR ji (QR jh (QR jg .ret)))
theorem je:ZG prog Lv=some (13,c7n,[.tmp 2]):=by kernel_rfl
@[simp]def jd:=[wx 1 0,wz 2 1,wb 3 false]
@[simp]def jc:=[ws 5 1 3,Y1 6 U0 5,wm 4 6]
@[simp]def ja:=[wm 7 4,oo 8 (.peq false (T 7) (.const (.pointer none)))]
@[simp]def iZ:=[wz 2 1,wb 3 false]
@[simp]def iY:=[ws 9 1 3,Y1 10 Wb 9,wm 11 4,Y1 12 N8 11,Y2 13 N4 10 12,we 14 0 13,we 15 1 13,wm 2 14,wm 3 15]
def a6r:Z9:=(QR jd (QR jc (Q (QR ja (CR 8 iZ)) (QR iY .ret))))
theorem EX:ZG prog Qg=some (16,a6r,[.tmp 2, .tmp 3]):=by kernel_rfl
@[simp]def iX:=[wx 1 0,wz 2 1,wb 3 false]
@[simp]def iW:=[ws 5 1 3,Y1 6 U4 5,wm 4 6]
@[simp]def iV:=[wm 7 4,wu 8 7]
@[simp]def iU:=[wz 2 1,wb 3 false]
@[simp]def iT:VT:=
 V1 10 Vn 9<|Ys 11 1 3<|V1 12 SQ 11<|V2 13 Qj 10 12<|ve 14 0 13<|ve 15 1 13<|ym 2 14<|ym 3 15<|.done
@[simp]def iR:VT:=
 Ys 11 1 3<|V1 10 Vn 9<|V1 12 SQ 11<|V2 13 Qj 10 12<|ve 14 0 13<|ve 15 1 13<|ym 2 14<|ym 3 15<|.done
@[simp]def iQ:VT:=
 Ys 9 1 3<|.alt (iT) (iR)
def a7r:Z9:=(QR iX (QR iW (Q (QR iV (CR 8 iU)) (Q (.any iQ) .ret))))
theorem EW:ZG prog Lu=some (16,a7r,[.tmp 2, .tmp 3]):=by kernel_rfl
@[simp]def iP:=[wx 1 0,wb 2 false]
@[simp]def iO:=[ws 4 1 3,Y1 5 U0 4,oo 6 (.peq false (T 5) (.const (.pointer none))),wm 3 6]
@[simp]def iN:=[wb 2 false]
@[simp]def iM:=[ws 8 1 3,oo 9 (.call TW [(T 8),(K 2)]),wc 10 .geq 9 0,wm 7 10]
@[simp]def iL:=[ws 11 1 3,oo 12 (.call SP [(T 11),(K 2)]),wc 13 .geq 12 0,wm 7 13]
@[simp]def iK:=[wb 2 false]
@[simp]def iJ:=[ws 14 1 3,Y1 15 Qf 14,wn 16 15,wc 17 .eql 16 0,wm 2 17]
def a8r:Z9:=(QR iP (Q (.block 0 (QR iO (CT 3 (QR iN .ret) (Q (QR iM (CT 7 .skip (R iL))) (CR 7 iK))))) (QR iJ .ret)))
theorem iI:ZG prog VL=some (18,a8r,[.tmp 2]):=by kernel_rfl
@[simp]def iH:=[wx 1 0,wb 2 false]
@[simp]def iG:=[ws 6 1 3,Y1 7 Lu 6,wm 5 7,we 8 0 5,we 9 1 5,wm 3 8,wm 4 9]
@[simp]def iF:=[wm 10 4,wm 11 10,qs 12 11 1 3,og 13 11 true (.call Qi [(T 12),(K 2)]),Yc 14 11 .eql 13 (-1),wp 15 11 14,wm 16 15,qs 17 16 1 3,og 18 16 true (.call Qh [(T 17),(K 2)]),Yc 19 16 .eql 18 (-1),wp 20 16 19,wm 2 20]
def a9r:Z9:=(QR iH (QR iG (QR iF .ret)))
theorem iE:ZG prog Lt=some (21,a9r,[.tmp 2]):=by kernel_rfl
@[simp]def iD:=[wx 1 0,wz 2 8]
@[simp]def iC:=[oo 4 (.lit 1 5 [(0,(K 1)),(1,(K 2)),(2,(K 3)),(3,(K 4)),(4,(K 5))]),wm 3 4]
@[simp]def iB:=[ws 5 1 3,Y1 6 Wb 5,wm 7 3,wm 8 3,Y3 9 SN 6 7 8,wm 2 9]
def a0s:Z9:=(QR iD (QR iC (QR iB .ret)))
theorem iA:ZG prog Qf=some (10,a0s,[.tmp 2]):=by kernel_rfl
@[simp]def iz:=[wx 1 0,wz 2 8]
@[simp]def iy:=[oo 4 (.build [zi,zb,zi,zb,zi,zs,zb] [(0,1,(K 62))]),oo 3 (.alloc [zi,zb,zi,zb,zi,zs,zb]),wo 3 4 7]
@[simp]def iw:VT:=
 V1 6 Vn 5<|Ys 7 3 7<|Ys 8 3 7<|W3 9 TV 6 7 8<|ym 2 9<|.done
@[simp]def iu:VT:=
 V1 6 Vn 5<|Ys 8 3 7<|W3 9 TV 6 7 8<|ym 2 9<|.done
@[simp]def iq:VT:=
 Ys 8 3 7<|V1 6 Vn 5<|W3 9 TV 6 7 8<|ym 2 9<|.done
@[simp]def il:VT:=
 Ys 7 3 7<|.alt (iu) (iq)
@[simp]def ik:VT:=
 V1 6 Vn 5<|Ys 7 3 7<|W3 9 TV 6 7 8<|ym 2 9<|.done
@[simp]def ij:VT:=
 Ys 7 3 7<|V1 6 Vn 5<|W3 9 TV 6 7 8<|ym 2 9<|.done
@[simp]def ig:VT:=
 Ys 8 3 7<|.alt (ik) (ij)
@[simp]def ie:VT:=
 Ys 5 1 3<|.alt (iw) (.alt (il) (ig))
def a1s:Z9:=(QR iz (QR iy (Q (.any ie) .ret)))
theorem ic:ZG prog Ls=some (10,a1s,[.tmp 2]):=by kernel_rfl
@[simp]def ib:=[wx 1 0,wz 2 8]
@[simp]def hZ:=[ws 3 1 3,oo 4 (.call Lf [(T 3),(.func N3)]),wm 2 4]
def a2s:Z9:=(QR ib (QR hZ .ret))
theorem hM:ZG prog Wb=some (5,a2s,[.tmp 2]):=by kernel_rfl
@[simp]def gZ:=[wx 1 0,wz 2 8]
@[simp]def gY:=[wz 3 8]
@[simp]def gX:=[ws 7 1 3,Y1 8 Wc 7,wm 4 8]
@[simp]def gU:=[wk 5 0]
@[simp]def gT:=[wm 9 5,wm 10 4,wn 11 10,wt 12 .lss 9 11]
@[simp]def gQ:VT:=
 Ys 15 1 3<|ym 16 4<|ym 17 5<|yi 18 8 16 17<|Ys 19 18 8<|V2 20 Gv 15 19<|ym 6 20<|.done
@[simp]def gO:=[wm 21 6]
@[simp]def gN:=[wm 22 3,wm 23 4,wm 24 5,wi 25 8 23 24,ws 26 25 8,oo 27 (.lit 8 1 [(0,(T 26))]),oo 28 (.app 8 72 (T 22) (T 27)),wm 3 28]
@[simp]def gL:=[wm 13 5,wc 14 .add 13 1,wm 5 14]
def Mk:Z9:=
 (Q (QR gT (CX 12 0)) (Q (.block 1 (Q (.any gQ) (QR gO (CT 21 (R gN) .skip)))) (R gL)))
@[simp]def Bo:=[wm 29 3,wm 2 29]
def a3s:Z9:=(QR gZ (QR gY (QR gX (Q (QR gU (.block 0 (.loop Mk))) (QR Bo .ret)))))
theorem gK:ZG prog Vn=some (30,a3s,[.tmp 2]):=by kernel_rfl
@[simp]def gJ:=[wx 1 0,wz 2 8]
@[simp]def gI:=[ws 3 1 3,oo 4 (.call Lf [(T 3),(.func Ld)]),wm 2 4]
def a4s:Z9:=(QR gJ (QR gI .ret))
theorem gH:ZG prog Qe=some (5,a4s,[.tmp 2]):=by kernel_rfl
@[simp]def gy:=[wx 1 0,wz 2 8]
@[simp]def gx:=[wz 3 8]
@[simp]def gw:=[ws 8 1 3,Y1 9 Vn 8,wm 4 9]
@[simp]def gu:=[wk 5 0]
@[simp]def gq:=[wm 10 5,wm 11 4,wn 12 11,wt 13 .lss 10 12]
@[simp]def gp:VT:=
 Ys 16 1 3<|ym 17 4<|ym 18 5<|yi 19 8 17 18<|Yf 20 0 19<|yl 21 20<|V2 22 Uy 16 21<|ym 6 22<|.done
@[simp]def gn:VT:=
 Ys 23 1 3<|ym 24 4<|ym 25 5<|yi 26 8 24 25<|Yf 27 1 26<|yl 28 27<|V2 29 Uy 23 28<|ym 7 29<|.done
@[simp]def gl:=[wm 30 6,wc 31 .eql 30 5,wm 32 31,Ym 33 32 7,Yc 34 32 .eql 33 5,wp 35 32 34]
@[simp]def gk:=[wm 36 3,wm 37 4,wm 38 5,wi 39 8 37 38,ws 40 39 8,oo 41 (.lit 8 1 [(0,(T 40))]),oo 42 (.app 8 72 (T 36) (T 41)),wm 3 42]
@[simp]def gj:=[wm 14 5,wc 15 .add 14 1,wm 5 15]
def Pn:Z9:=
 (Q (QR gq (CX 13 0)) (Q (.block 1 (Q (.any gp) (Q (.any gn) (QR gl (CT 35 (R gk) .skip))))) (R gj)))
@[simp]def Bn:=[wm 43 3,wm 2 43]
def a5s:Z9:=(QR gy (QR gx (QR gw (Q (QR gu (.block 0 (.loop Pn))) (QR Bn .ret)))))
theorem gi:ZG prog Lr=some (44,a5s,[.tmp 2]):=by kernel_rfl
@[simp]def gg:=[oo 4 (.alloc [.nil 1, .nil 22, .nil 5])]
@[simp]def gf:=[oo 7 (.build [zb,zi,zs] [(1,1,(K 5))]),oo 5 (.alloc [zb,zi,zs]),wo 5 7 3]
@[simp]def gb:=[wz 6 22]
@[simp]def ga:=[wm 8 6,wm 9 0,oo 10 (.build [zi,zi,zi,zi,zb,zi,zs,zi,zi,zi, .nil 3,zi,zi,zb,zi,zs,zb,zi,zs, .nil 9, .nil 5,zb] [(0,1,(K 1)),(1,1,(K 1)),(2,1,(T 9))]),wm 11 1,oo 12 (.build [zi,zi,zi,zi,zb,zi,zs,zi,zi,zi, .nil 3,zi,zi,zb,zi,zs,zb,zi,zs, .nil 9, .nil 5,zb] [(0,1,(K 2)),(1,1,(K 1)),(2,1,(T 11))]),oo 13 (.lit 22 2 [(0,(T 10)),(1,(T 12))]),oo 14 (.app 22 248 (T 8) (T 13)),wm 6 14]
@[simp]def fZ:=[wm 15 6,ws 16 5 3,oo 17 (.build [zi,zi,zi,zi,zb,zi,zs,zi,zi,zi, .nil 3,zi,zi,zb,zi,zs,zb,zi,zs, .nil 9, .nil 5,zb] [(0,1,(K 1)),(1,1,(K 2)),(4,3,(T 16))]),ws 18 5 3,ws 19 5 3,oo 20 (.lit 3 1 [(0,(T 19))]),oo 21 (.build [zi,zi,zi,zi,zb,zi,zs,zi,zi,zi, .nil 3,zi,zi,zb,zi,zs,zb,zi,zs, .nil 9, .nil 5,zb] [(0,1,(K 2)),(1,1,(K 3)),(4,3,(T 18)),(9,1,(K 1)),(10,1,(T 20))]),oo 22 (.lit 22 2 [(0,(T 17)),(1,(T 21))]),oo 23 (.app 22 248 (T 15) (T 22)),wm 6 23]
@[simp]def fY:=[wm 24 6,oo 25 (.build [zi,zi,zi,zi,zb,zi,zs,zi,zi,zi, .nil 3,zi,zi,zb,zi,zs,zb,zi,zs, .nil 9, .nil 5,zb] [(0,1,(K 1)),(1,1,(K 5))]),oo 26 (.build [zi,zi,zi,zi,zb,zi,zs,zi,zi,zi, .nil 3,zi,zi,zb,zi,zs,zb,zi,zs, .nil 9, .nil 5,zb] [(0,1,(K 2)),(1,1,(K 5))]),oo 27 (.lit 22 2 [(0,(T 25)),(1,(T 26))]),oo 28 (.app 22 248 (T 24) (T 27)),wm 6 28]
@[simp]def fX:=[oo 29 (.lit 1 1 [(0,(B false))]),oo 30 (.build [.nil 1] [(0,1,(T 29))]),oo 31 (.lit 1 1 [(0,(T 30))]),wm 32 6,ws 33 5 3,oo 34 (.lit 1 1 [(0,(K 2))]),oo 35 (.build [zi,zb,zi,zs, .nil 1] [(1,3,(T 33)),(4,1,(T 34))]),oo 36 (.lit 5 1 [(0,(T 35))]),oo 37 (.build [.nil 1, .nil 22, .nil 5] [(0,1,(T 31)),(1,1,(T 32)),(2,1,(T 36))]),wo 4 37 3]
def c8n:Z9:=(QR gg (QR gf (QR gb (QR ga (QR fZ (QR fY (QR fX .ret)))))))
theorem fW:ZG prog RD=some (38,c8n,[.cell 4 (some 3)]):=by kernel_rfl
@[simp]def fV:=[wx 2 0,wx 3 1,wz 4 8]
@[simp]def fU:=[ws 6 2 3,Y1 7 U0 6,oo 5 (.alloc [.iv (.v (.pointer none))]),wo 5 7 1]
@[simp]def fT:=[ws 8 2 3,Y1 9 XD 8,oo 10 (.VO NW [] [(T 3),(T 5)]),Y2 11 N6 9 10,wm 4 11]
def Nn:Z9:=(QR fV (QR fU (QR fT .ret)))
theorem fS:ZG prog Lf=some (12,Nn,[.tmp 4]):=by kernel_rfl
@[simp]def fR:=[wx 3 0,wb 6 false]
@[simp]def fQ:=[yf 7 2 3,wl 8 7]
@[simp]def fP:=[wc 10 .eql 8 1,wm 9 10]
@[simp]def fO:=[wc 12 .eql 8 2,wm 11 12]
@[simp]def fN:=[wc 14 .eql 8 3,wm 13 14]
@[simp]def fM:=[wc 16 .eql 8 4,wm 15 16]
@[simp]def fL:=[wb 6 true]
@[simp]def fK:=[wm 17 2,wc 18 .geq 17 2,wm 6 18]
@[simp]def fJ:=[wm 19 1,wc 20 .geq 19 4,wm 6 20]
@[simp]def fI:=[wm 21 1,wc 22 .geq 21 5,wm 6 22]
def WZ:Z9:=(QR fR (Q (QR fQ (.block 0 (Q (.block 4 (Q (.block 3 (.block 2 (Q (.block 1 (Q (Q (QR fP (CT 9 (.exit 1) .skip)) (Q (QR fO (CT 11 (.exit 2) .skip)) (Q (QR fN (CT 13 (.exit 3) .skip)) (QR fM (CT 15 (.exit 4) .skip))))) (.exit 0))) (Q (QR fL .ret) (.exit 0))))) (Q (QR fK .ret) (.exit 0)))) (Q (QR fJ .ret) (.exit 0))))) (QR fI .ret)))
theorem kO:ZG prog N3=some (23,WZ,[.tmp 6]):=by kernel_rfl
@[simp]def fH:=[wx 2 0,wx 3 1,wb 4 false]
@[simp]def fG:=[ws 7 2 3,yf 8 0 3,wl 9 8,Y2 10 Uy 7 9,wm 5 10]
@[simp]def fF:=[ws 11 2 3,yf 12 1 3,wl 13 12,Y2 14 Uy 11 13,wm 6 14]
@[simp]def fE:=[yf 15 2 3,wl 16 15]
@[simp]def fD:=[wc 18 .eql 16 1,wm 17 18]
@[simp]def fC:=[wb 4 true]
@[simp]def fB:=[wc 20 .eql 16 2,wm 19 20]
@[simp]def fA:=[wc 21 .eql 16 3,wm 19 21]
@[simp]def fz:=[wm 22 6,wc 23 .geq 22 2,wm 4 23]
@[simp]def fy:=[wc 25 .eql 16 4,wm 24 25]
@[simp]def Bm:=[wm 26 5,wc 27 .geq 26 4,wm 4 27]
@[simp]def Bl:=[wm 28 5,wc 29 .geq 28 5,wm 4 29]
def c9n:Z9:=(QR fH (QR fG (QR fF (Q (QR fE (.block 0 (QR fD (CT 17 (QR fC .ret) (Q (QR fB (CT 19 .skip (R fA))) (CT 19 (QR fz .ret) (QR fy (CR 24 Bm)))))))) (QR Bl .ret)))))
theorem fx:ZG prog Gv=some (30,c9n,[.tmp 4]):=by kernel_rfl
@[simp]def fw:=[wx 3 0,wb 6 false]
@[simp]def fu:=[wm 7 1,wc 8 .eql 7 5,wm 9 8,Ym 10 9 2,Yc 11 9 .eql 10 5,wp 12 9 11,wm 13 12,qs 14 13 3 8,Ym 15 13 1,Ym 16 13 2,V3 17 13 N3 14 15 16,wp 18 13 17,wm 6 18]
def a1t:Z9:=(QR fw (QR fu .ret))
theorem kN:ZG prog Ld=some (19,a1t,[.tmp 6]):=by kernel_rfl
@[simp]def ft:=[wx 3 0,wb 4 false]
@[simp]def EV:VT:=
 V2 10 YY 7 9<|yl 11 2<|yl 13 12<|V2 14 YY 11 13<|oc 15 (.Zc (T 5) [(T 6),(T 10),(T 14)])<|vu 16 15<|ym 4 16<|.done
@[simp]def Mj:VT:=
 V2 10 YY 7 9<|yl 13 12<|V2 14 YY 11 13<|oc 15 (.Zc (T 5) [(T 6),(T 10),(T 14)])<|vu 16 15<|ym 4 16<|.done
@[simp]def Mi:VT:=
 yl 13 12<|V2 10 YY 7 9<|V2 14 YY 11 13<|oc 15 (.Zc (T 5) [(T 6),(T 10),(T 14)])<|vu 16 15<|ym 4 16<|.done
@[simp]def EU:VT:=
 yl 11 2<|.alt (Mj) (Mi)
@[simp]def Mh:VT:=
 V2 10 YY 7 9<|yl 11 2<|V2 14 YY 11 13<|oc 15 (.Zc (T 5) [(T 6),(T 10),(T 14)])<|vu 16 15<|ym 4 16<|.done
@[simp]def Mg:VT:=
 yl 11 2<|V2 10 YY 7 9<|V2 14 YY 11 13<|oc 15 (.Zc (T 5) [(T 6),(T 10),(T 14)])<|vu 16 15<|ym 4 16<|.done
@[simp]def ET:VT:=
 yl 13 12<|.alt (Mh) (Mg)
@[simp]def fq:VT:=
 Ys 6 3 8<|.alt (EV) (.alt (EU) (ET))
@[simp]def Re:VT:=
 Ys 6 3 8<|V2 14 YY 11 13<|oc 15 (.Zc (T 5) [(T 6),(T 10),(T 14)])<|vu 16 15<|ym 4 16<|.done
@[simp]def Rc:VT:=
 V2 14 YY 11 13<|Ys 6 3 8<|oc 15 (.Zc (T 5) [(T 6),(T 10),(T 14)])<|vu 16 15<|ym 4 16<|.done
@[simp]def Bj:VT:=
 V2 10 YY 7 9<|yl 11 2<|yl 13 12<|.alt (Re) (Rc)
@[simp]def Kr:VT:=
 Ys 6 3 8<|.alt (Mj) (Mi)
@[simp]def Kq:VT:=
 V2 10 YY 7 9<|yl 13 12<|.alt (Re) (Rc)
@[simp]def Pm:VT:=
 Ys 6 3 8<|V2 10 YY 7 9<|V2 14 YY 11 13<|oc 15 (.Zc (T 5) [(T 6),(T 10),(T 14)])<|vu 16 15<|ym 4 16<|.done
@[simp]def Pk:VT:=
 V2 10 YY 7 9<|.alt (Re) (Rc)
@[simp]def Kp:VT:=
 yl 13 12<|.alt (Pm) (Pk)
@[simp]def Bi:VT:=
 yl 11 2<|.alt (Kr) (.alt (Kq) (Kp))
@[simp]def Ko:VT:=
 Ys 6 3 8<|.alt (Mh) (Mg)
@[simp]def Kn:VT:=
 V2 10 YY 7 9<|yl 11 2<|.alt (Re) (Rc)
@[simp]def Km:VT:=
 yl 11 2<|.alt (Pm) (Pk)
@[simp]def Bh:VT:=
 yl 13 12<|.alt (Ko) (.alt (Kn) (Km))
@[simp]def Bg:VT:=
 .alt (Bj) (.alt (Bi) (Bh))
@[simp]def Bf:VT:=
 yl 5 1<|.alt (fq) (Bg)
@[simp]def Be:VT:=
 yl 5 1<|.alt (EV) (.alt (EU) (ET))
@[simp]def TC:VT:=
 yl 5 1<|V2 14 YY 11 13<|oc 15 (.Zc (T 5) [(T 6),(T 10),(T 14)])<|vu 16 15<|ym 4 16<|.done
@[simp]def TB:VT:=
 V2 14 YY 11 13<|yl 5 1<|oc 15 (.Zc (T 5) [(T 6),(T 10),(T 14)])<|vu 16 15<|ym 4 16<|.done
@[simp]def Bd:VT:=
 V2 10 YY 7 9<|yl 11 2<|yl 13 12<|.alt (TC) (TB)
@[simp]def Kl:VT:=
 yl 5 1<|.alt (Mj) (Mi)
@[simp]def Kk:VT:=
 V2 10 YY 7 9<|yl 13 12<|.alt (TC) (TB)
@[simp]def Pj:VT:=
 yl 5 1<|V2 10 YY 7 9<|V2 14 YY 11 13<|oc 15 (.Zc (T 5) [(T 6),(T 10),(T 14)])<|vu 16 15<|ym 4 16<|.done
@[simp]def Ph:VT:=
 V2 10 YY 7 9<|.alt (TC) (TB)
@[simp]def Kj:VT:=
 yl 13 12<|.alt (Pj) (Ph)
@[simp]def Bc:VT:=
 yl 11 2<|.alt (Kl) (.alt (Kk) (Kj))
@[simp]def Ki:VT:=
 yl 5 1<|.alt (Mh) (Mg)
@[simp]def Kh:VT:=
 V2 10 YY 7 9<|yl 11 2<|.alt (TC) (TB)
@[simp]def Kg:VT:=
 yl 11 2<|.alt (Pj) (Ph)
@[simp]def Bb:VT:=
 yl 13 12<|.alt (Ki) (.alt (Kh) (Kg))
@[simp]def Ba:VT:=
 .alt (Bd) (.alt (Bc) (Bb))
@[simp]def A9:VT:=
 Ys 6 3 8<|.alt (Be) (Ba)
@[simp]def R2:VT:=
 yl 5 1<|.alt (Re) (Rc)
@[simp]def R1:VT:=
 Ys 6 3 8<|.alt (TC) (TB)
@[simp]def R0:VT:=
 V2 14 YY 11 13<|yl 5 1<|Ys 6 3 8<|oc 15 (.Zc (T 5) [(T 6),(T 10),(T 14)])<|vu 16 15<|ym 4 16<|.done
@[simp]def A8:VT:=
 V2 10 YY 7 9<|yl 11 2<|yl 13 12<|.alt (R2) (.alt (R1) (R0))
@[simp]def A7:VT:=
 yl 5 1<|.alt (Kr) (.alt (Kq) (Kp))
@[simp]def A6:VT:=
 Ys 6 3 8<|.alt (Kl) (.alt (Kk) (Kj))
@[simp]def A5:VT:=
 V2 10 YY 7 9<|yl 13 12<|.alt (R2) (.alt (R1) (R0))
@[simp]def Kf:VT:=
 yl 5 1<|.alt (Pm) (Pk)
@[simp]def Ke:VT:=
 Ys 6 3 8<|.alt (Pj) (Ph)
@[simp]def Kc:VT:=
 V2 10 YY 7 9<|.alt (R2) (.alt (R1) (R0))
@[simp]def A4:VT:=
 yl 13 12<|.alt (Kf) (.alt (Ke) (Kc))
@[simp]def A3:VT:=
 .alt (A6) (.alt (A5) (A4))
@[simp]def A1:VT:=
 yl 11 2<|.alt (A7) (A3)
@[simp]def A0:VT:=
 yl 5 1<|.alt (Ko) (.alt (Kn) (Km))
@[simp]def AZ:VT:=
 Ys 6 3 8<|.alt (Ki) (.alt (Kh) (Kg))
@[simp]def AY:VT:=
 V2 10 YY 7 9<|yl 11 2<|.alt (R2) (.alt (R1) (R0))
@[simp]def AX:VT:=
 yl 11 2<|.alt (Kf) (.alt (Ke) (Kc))
@[simp]def AW:VT:=
 .alt (AZ) (.alt (AY) (AX))
@[simp]def AU:VT:=
 yl 13 12<|.alt (A0) (AW)
@[simp]def AT:VT:=
 .alt (A8) (.alt (A1) (AU))
@[simp]def Rk:VT:=
 yl 7 2<|Yf 8 0 3<|yl 9 8<|Yf 12 1 3<|.alt (Bf) (.alt (A9) (AT))
def a2t:Z9:=(QR ft (Q (.any Rk) .ret))
theorem kM:ZG prog NW=some (17,a2t,[.tmp 4]):=by kernel_rfl
end Go.Rt
end

section
namespace Go.Vm
def lL:Operand->Operand->Bool
 | .tmp a, .tmp b=>a==b
 | _,_=>false
def FB:List Operand->List Operand->Bool
 | [],[]=>true
 |a::r,b::q=>lL a b&&FB r q
 | _,_=>false
def eqN:Option Nat->Option Nat->Bool
 |none,none=>true
 |some a,some b=>a==b
 | _,_=>false
def eqR:V7->V7->Bool
 | .ld x n, .ld y m=>lL x y&&eqN n m
 | .call f xs, .call g ys=>c9Z f g&&FB xs ys
 | .fa n x, .fa m y=>n==m&&lL x y
 | .QH x, .QH y=>lL x y
 | .Zc x xs, .Zc y ys=>lL x y&&FB xs ys
 | _,_=>false
theorem b2w{a b:Operand}(h:lL a b=true):a=b:=by
 cases a<;>cases b<;>simp_all[lL]
theorem b3w:∀{a b:List Operand},FB a b=true->a=b
 | [],[],_=>rfl
 |a::r,b::q,h=>by
  simp only[FB,a3C]at h;rw[b2w h.1,b3w h.2]
 | [],b::q,h=>by cases h
 |a::r,[],h=>by cases h
theorem b4w{a b:Option Nat}(h:eqN a b=true):a=b:=by
 cases a<;>cases b<;>simp_all[eqN]
theorem b5w{a b:V7}(h:eqR a b=true):a=b:=by
 unfold eqR at h;split at h
 ·rw[a3C]at h;rw[b2w h.1,b4w h.2]
 ·rw[a3C]at h;rw[c5y h.1,b3w h.2]
 ·rw[a3C]at h;rw[eq_of_beq h.1,b2w h.2]
 ·rw[b2w h]
 ·rw[a3C]at h;rw[b2w h.1,b3w h.2]
 ·cases h
abbrev OpQ:=Nat×V7×List Nat
def f2P(ops:List OpQ)(d:Nat)(r:V7)(S:List Nat):Bool:=ops.any fun q=>c9Z q.1 d&&eqR q.2.1 r&&q.2.2.all fun t=>S.contains t
def MC(ops:List OpQ)(fd:Nat)(fr:V7):VT->List Nat->Bool
 | .done,_=>false
 | .alt a b,S=>MC ops fd fr a S&&MC ops fd fr b S
 | .op o t,S=>match o.d,o.g with
  |some d,none=>if c9Z d fd then eqR o.r fr&&ops.all fun q=>S.contains q.1 else f2P ops d o.r S&&MC ops fd fr t (d::S)
  | _,_=>false
def oq(fd:Nat):VT->List VT
 | .done=>[]
 | .alt a b=>oq fd a++oq fd b
 | .op o t=>match o.d with
  |some d=>if c9Z d fd then[t]else oq fd t
  |none=>[]
structure Dd (s0:St) (F:Nat->AV) (S:List Nat) (s:St):Prop where
 hp:s.hp=s0.hp
 fr:∀t,s.get t=if S.contains t then F t else s0.get t
theorem Dd.set{s0 s:St}{F:Nat->AV}{S:List Nat}(h:Dd s0 F S s)(d:Nat):Dd s0 F (d::S) (s.set d (F d)):=by
 refine⟨h.hp,fun t=>?_⟩;rw[St.WW,h.fr t]
 by_cases e:d=t
 ·subst e;simp
 ·rw[if_neg e]
  have:(d::S).contains t=S.contains t:=by simp[c0p,Ne.symm e]
  rw[this]
def b7w(F:Nat->AV)(S:List Nat)(s0:St):St:=⟨S.map (fun t=>(t,F t))++s0.fr,s0.hp⟩
theorem b8w{F:Nat->AV}{fr:List (Nat×AV)}:∀(S:List Nat) (t:Nat),look (S.map (fun t=>(t,F t))++fr) t=if S.contains t then some (F t)else look fr t
 | [],t=>by simp
 |d::S,t=>by
  simp only[a0I,b4O,look]
  by_cases e:d=t
  ·subst e;simp
  ·rw[if_neg e,b8w S t]
   have:(d::S).contains t=S.contains t:=by simp[c0p,Ne.symm e]
   rw[this]
theorem Dd.le{s0 s:St}{F:Nat->AV}{S:List Nat}(h:Dd s0 F S s)(S':List Nat)(hS:∀t,S'.contains t=true->S.contains t=true)(h0:∀t,S.contains t=true->S'.contains t=false->s0.get t= .junk):Le s (b7w F S' s0):=by
 obtain⟨fr,hp⟩:=s;have hh:=h.hp;simp only at hh;subst hh;rintro E n a w ⟨ψ,k⟩;refine⟨ψ,{k with size:=k.size,frame:=fun t=>?_,defers:=k.defers,YC:=k.YC,inj:=k.inj,own:=k.own,YU:=k.YU,par:=k.par,old:=k.old,grow:=k.grow,same:=k.same}⟩;have hk:=k.frame t;rw[h.fr t]at hk
 have:(b7w F S' s0).get t=if S'.contains t then F t else s0.get t:=by
  simp only[b7w,St.get,b8w]
  by_cases e:S'.contains t=true
  ·rw[if_pos e,if_pos e];rfl
  ·rw[if_neg e,if_neg e]
 rw[this]
 by_cases e:S'.contains t=true
 ·rw[if_pos e];rw[if_pos (hS t e)]at hk;exact hk
 ·rw[if_neg e]
  by_cases e2:S.contains t=true
  ·rw[h0 t e2 (by simpa using e)];exact .junk _
  ·rw[if_neg e2]at hk;exact hk
def Iy(P:Program)(s0:St)(F:Nat->AV)(q:OpQ):Prop:=
 ∀(S:List Nat) (s:St) (K:St->AV->Prop),Dd s0 F S s->(q.2.2.all fun t=>S.contains t)=true->K s (F q.1)->ZQ P q.1 s K q.2.1
theorem b9w{P:Program}{s0:St}{F:Nat->AV}{ops:List OpQ}{fd:Nat}{fr:V7}{fin:VT}{K:St->Prop}(NA:∀q,q∈ops->Iy P s0 F q)
 (TN:∀S s,Dd s0 F S s->(∀t,S.contains t=true->∃q,q∈ops/\q.1=t)->(ops.all fun q=>S.contains q.1)=true->ZQ P fd s (fun s' x=>Tk P fin (s'.put (some fd) x) K) fr):
 ∀(t:VT) (S:List Nat) (s:St),Dd s0 F S s->(∀t,S.contains t=true->∃q,q∈ops/\q.1=t)->MC ops fd fr t S=true->(∀t',t'∈oq fd t->t'=fin)->Tk P t s K
 | .done,S,s,_,_,h,_=>by cases h
 | .alt a b,S,s,hs,hS,h,hf=>by
  simp only[MC,a3C]at h;simp only[oq,a9E]at hf;exact⟨b9w NA TN a S s hs hS h.1 fun t' ht=>hf t' (.inl ht),b9w NA TN b S s hs hS h.2 fun t' ht=>hf t' (.inr ht)⟩
 | .op ⟨d,g,r⟩ t,S,s,hs,hS,h,hf=>by
  simp only[MC]at h;split at h
  ·rename_i d';simp only[oq]at hf
   by_cases e:c9Z d' fd=true
   ·rw[if_pos e]at h;simp only[e,if_true,a1B]at hf;rw[a3C]at h;obtain rfl:=c5y e;obtain rfl:=b5w h.1;obtain rfl:=hf t rfl;exact TN S s hs hS h.2
   ·rw[if_neg e]at h;simp only[e]at hf;rw[a3C]at h;obtain⟨q,hq,h3⟩:=List.any_eq_true.1 h.1;rw[a3C,a3C]at h3;obtain⟨q1,q2,q3⟩:=q;have e1:=c5y h3.1.1;have e2:=b5w h3.1.2;simp only at e1 e2;subst e1 e2
    exact NA _ hq S s (fun s' x=>Tk P t (s'.put (some q1) x) K) hs h3.2 (b9w NA TN t (q1::S) _ (hs.set q1) (fun t ht=>by
     rw[c0p,b6w]at ht
     rcases ht with g|g
     ·exact⟨_,hq,(eq_of_beq g).symm⟩
     ·exact hS t g) h.2 (by simpa using hf))
  ·cases h
section
variable{P:Program}{s0:St}{F:Nat->AV}
theorem Dd.ev{S:List Nat}{s:St}(h:Dd s0 F S s){need:List Nat}(hn:(need.all fun t=>S.contains t)=true){t:Nat}(ht:need.contains t=true):s.get t=F t:=by
 rw[h.fr t,if_pos];exact a8C.1 hn t (a6M.1 ht)
theorem b0x{s:St}:∀(l:List AV),l.all AV.plain=true->l.map (s.arg true [])=l/\l.map (s.arg false [])=l/\l.all (AV.YO [])=true
 | [],_=>⟨rfl,rfl,rfl⟩
 |x::l,h=>by
  rw[b0w,a3C]at h;obtain⟨h1,h2,h3⟩:=b0x l h.2
  have hx:s.arg true [] x=x/\s.arg false [] x=x/\AV.YO [] x=true:=by
   have hp:=h.1
   cases x with
   |iv y=>exact⟨rfl,rfl,rfl⟩
   |agg cs=>
    have hc:∀c∈cs,c.Ch=true:=fun c hc=>a8C.1 hp c hc
    have hm:∀b,cs.map (s.arg1 b [])=cs:=fun b=>by
     conv=>rhs;rw[<-c7N cs]
     refine b5n fun c Cg=>?_
     have:=hc c Cg
     cases c<;>first|rfl|cases this
    refine⟨by simp[St.arg,hm],by simp[St.arg,hm],?_⟩;simp only[AV.YO,a8C];intro c Cg;have:=hc c Cg
    cases c<;>first|rfl|cases this
   | _=>cases hp
  exact⟨by rw[a0I,hx.1,h1],by rw[a0I,hx.2.1,h2],by rw[b0w,hx.2.2,h3];rfl⟩
theorem b1x:∀(l:List AV),l.all AV.plain=true->l.filter (fun x=> !x.YO [])=[]:=fun l h=>by
 have:=(b0x (s:=⟨[],[]⟩) l h).2.2;rw[b3Z];intro x hx;simp[a8C.1 this x hx]
theorem b2x{s:St}{d:Nat}(h:look s.hp d=none):s.drop d=s:=by
 unfold St.drop;rw[h]
theorem b3x{b:Bool}{d:Nat}{f:FuncId}{ts need:List Nat}{args:List AV}{res:AV}(h:ZX P b f args [] res [])(hF:F d=res)(YZ:ts.map F=args)(Ul:args.all AV.plain=true)
 (hd:look s0.hp d=none) (hn:ts=need):Iy P s0 F (d, .call f (ts.map Operand.tmp),need):=by
 subst hn;intro S s K hs Zq hk
 have Rs:(ts.map Operand.tmp).map s.ev=args:=by
  rw[<-YZ,b2Z]
  refine b5n fun t ht=>?_
  show s.get t=F t
  exact hs.ev Zq (a6M.2 ht)
 have hsd:look s.hp d=none:=by rw[hs.hp];exact hd
 show KQ P d f [] (ts.map Operand.tmp) [] none s K
 have hA:s.args [] (ts.map Operand.tmp) []=args:=by simp only[St.args,a9U,b3H,b9o];exact Rs
 obtain⟨p1,p2,p3⟩:=b0x (s:=s) args Ul
 cases b with
 |true=>
  refine oR ⟨s,Le.refl s,true,[],res,[],s,(b2x hsd).symm,trivial,{spec:=?_,refs:=?_,sub:=fun _ _ h=>(by cases h),own:=fun _ _ h=>(by cases h),keep:=fun _ _ h=>(by cases h),new:=fun _ _ h=>(by cases h)},?_⟩
  ·rw[a9U,hA,p1];exact h
  ·rw[a9U,hA,p1];exact p3
  ·rw[hF]at hk;exact hk
 |false=>
  have hfz:(s.YX ((s.args [] (ts.map Operand.tmp) []).filter fun x=> !x.YO [])).drop d=s:=by
   rw[hA,b1x args Ul];exact b2x hsd
  refine oR ⟨s,Le.refl s,false,[],res,[],s,hfz.symm,trivial,{spec:=?_,refs:=?_,sub:=fun _ _ h=>(by cases h),own:=fun _ _ h=>(by cases h),keep:=fun _ _ h=>(by cases h),new:=fun _ _ h=>(by cases h)},?_⟩
  ·rw[a9U,hA,p2];exact h
  ·rw[a9U,hA,p2];exact p3
  ·rw[hF]at hk;exact hk
theorem b4x{d t id off n:Nat}{cs:List AV}{need:List Nat}(hF:F d= .agg ((cs.drop off).take n))(hp:look s0.hp id=some (.box cs))(hl:off+n<=cs.length)
 (ht:(need.contains t=true/\F t= .ptr id off)\/(s0.get t= .ptr id off/\F t= .ptr id off)):Iy P s0 F (d, .ld (.tmp t) (some n),need):=by
 intro S s K hs Zq hk
 have hg:s.get t= .ptr id off:=by
  rcases ht with⟨h1,h2⟩|⟨h1,h2⟩
  ·rw[hs.ev Zq h1,h2]
  ·rw[hs.fr t];split<;>assumption
 have Xj:look s.hp id=some (.box cs):=by rw[hs.hp];exact hp
 rw[hF]at hk;simp only[ZQ,St.ev,hg,Xj];exact⟨hl,hk⟩
theorem b5x{d t id o off:Nat}{need:List Nat}(hF:F d= .ptr id (o+off))(ht:s0.get t= .ptr id o/\F t= .ptr id o):Iy P s0 F (d, .fa off (.tmp t),need):=by
 intro S s K hs Zq hk
 have hg:s.get t= .ptr id o:=by
  rw[hs.fr t];split
  ·exact ht.2
  ·exact ht.1
 rw[hF]at hk;simp only[ZQ,St.ev,hg];exact hk
theorem b6x{d t:Nat}{cs:List IV}{y:IV}{need:List Nat}(hF:F d= .iv y)(hl:cs[0]? =some y)(ht:s0.get t= .iv (.pt cs)/\F t= .iv (.pt cs)):Iy P s0 F (d, .ld (.tmp t) none,need):=by
 intro S s K hs Zq hk
 have hg:s.get t= .iv (.pt cs):=by
  rw[hs.fr t];split
  ·exact ht.2
  ·exact ht.1
 rw[hF]at hk;simp only[ZQ,St.ev,hg,hl];exact hk
theorem b7x{d t id off:Nat}{cs:List AV}{y:AV}{need:List Nat}(hF:F d=y)(hp:look s0.hp id=some (.box cs))(hl:cs[off]? =some y)
 (ht:(need.contains t=true/\F t= .ptr id off)\/(s0.get t= .ptr id off/\F t= .ptr id off)):Iy P s0 F (d, .ld (.tmp t) none,need):=by
 intro S s K hs Zq hk
 have hg:s.get t= .ptr id off:=by
  rcases ht with⟨h1,h2⟩|⟨h1,h2⟩
  ·rw[hs.ev Zq h1,h2]
  ·rw[hs.fr t];split<;>assumption
 have Xj:look s.hp id=some (.box cs):=by rw[hs.hp];exact hp
 rw[hF]at hk;simp only[ZQ,St.ev,hg,Xj,hl];exact hk
end
theorem b8x{α:Type}{l:List α}{x:α}(h:l=a2N l.length x):∀y,y∈l->y=x:=fun y hy=>by
 rw[h]at hy;exact List.eq_of_mem_replicate hy
theorem b0S{A:Nat->Prop}{ψ:Pl}{H:Hp}{w:World}{f:FuncId}{v:Value}(h:ZL A ψ H w (.fn f [] []) v):ZL A ψ H w (.iv (.v (.func (.func f) #[] #[]))) v:=by
 cases h with
 |fn _ _ _ vf vc hf hc _ _=>
  obtain rfl:vf= #[]:=b9b hf;obtain rfl:vc= #[]:=b9b hc;exact .iv _ _ (.v _ rfl)
theorem ZX.ofFn{P:Program}{b:Bool}{f g:FuncId}{x:AV}{res:AV}{H H':Hp}(h:ZX P b f [x, .iv (.v (.func (.func g) #[] #[]))] H res H'):ZX P b f [x, .fn g [] []] H res H':=by
 refine⟨h.1,fun A ψ w vs a b c d e f k=>h.2 A ψ w vs a b c d e f fun i y hy=>?_⟩
 match i,hy with
 | 0,hy=>exact k 0 y hy
 | 1,hy=>
  cases hy;exact b0S (k 1 _ rfl)
 |i+2,hy=>cases hy
end Go.Vm
namespace Go.Rt
open Go.Vm
def Zt(e:Eg)(Z4 to:Int):Bool:=if e.kind=1 then true else if e.kind=2\/e.kind=3 then decide (2<=to)else if e.kind=4 then decide (4<=Z4)else decide (5<=Z4)
def Uf(e:Eg)(Z4 to:Int):Bool:=decide (Z4=5/\to=5)&&Zt e Z4 to
theorem b1S(e:Eg)(Z4 to:Int):ZX prog true N3 [e.av,vi Z4,vi to] [] (vb (Zt e Z4 to)) []:=by
 refine YG kO (by simp) (by decide) rfl ?_
 by_cases k1:e.kind=1
 ·simp-dsimp[WZ,Eg.av,Eg.cells,Zt,k1]
 ·by_cases k2:e.kind=2
  ·simp-dsimp[WZ,Eg.av,Eg.cells,Zt,k2]
  ·by_cases k3:e.kind=3
   ·simp-dsimp[WZ,Eg.av,Eg.cells,Zt,k3]
   ·by_cases k4:e.kind=4
    ·simp-dsimp[WZ,Eg.av,Eg.cells,Zt,k4]
    ·simp-dsimp[WZ,Eg.av,Eg.cells,Zt,k1,k2,k3,k4]
theorem b2S(e:Eg)(Z4 to:Int):ZX prog true Ld [e.av,vi Z4,vi to] [] (vb (Uf e Z4 to)) []:=by
 have hc:=b1S e Z4 to;refine YG kN (by simp) (by decide) rfl ?_
 by_cases h5:Z4=5
 ·by_cases t5:to=5
  ·simp-dsimp[a1t,Eg.av,Eg.cells,Uf,h5,t5];rw[h5,t5]at hc;refine ZN hc (by simp[Eg.av,Eg.cells]) (by simp[Eg.av,Eg.cells]) ?_;simp-dsimp
  ·simp-dsimp[a1t,Eg.av,Eg.cells,Uf,h5,t5]
 ·simp-dsimp[a1t,Eg.av,Eg.cells,Uf,h5]
theorem b3S:XV prog N3=true:=by kernel_rfl
theorem b4S:XV prog Ld=true:=by kernel_rfl
theorem b5S:XV prog NW=true:=by kernel_rfl
abbrev nX(g:FuncId):IV:= .v (.func (.func g) #[] #[])
def b6S:List OpQ:=[(5, .ld (.tmp 1) none,[]),(6, .ld (.tmp 3) (some 8),[]),(7, .ld (.tmp 2) none,[]),(8, .fa 0 (.tmp 3),[]),(9, .ld (.tmp 8) none,[8]),(10, .call YY ([7,9].map Operand.tmp),[7,9]),
 (11, .ld (.tmp 2) none,[]),(12, .fa 1 (.tmp 3),[]),(13, .ld (.tmp 12) none,[12]),(14, .call YY ([11,13].map Operand.tmp),[11,13])]
def Fb(g:FuncId)(bk:IV)(e:Eg)(a b:Int):Nat->AV
 | 1=> .iv (.pt [nX g])| 2=> .iv (.pt [bk])| 3=> .ptr 3 0
 | 5=> .iv (nX g)| 6=>e.av| 7=> .iv bk| 8=> .ptr 3 0| 9=>vi e.Z4| 10=>vi a| 11=> .iv bk| 12=> .ptr 3 1| 13=>vi e.to| 14=>vi b| _=> .junk
def b7S:VT:= .op (oo 16 (.un .not (.tmp 15))) (.op (oo 4 (.QH (.tmp 16))) .done)
theorem b8S:MC b6S 15 (.Zc (.tmp 5) [.tmp 6, .tmp 10, .tmp 14]) Rk []=true:=by kernel_rfl
theorem b9S:oq 15 Rk=a2N (oq 15 Rk).length b7S:=by kernel_rfl
theorem b0T{g:FuncId}(ZY:XV prog g=true){B:Eg->Int->Int->Bool}(hg:∀e a b,ZX prog true g [e.av,vi a,vi b] [] (vb (B e a b)) [])(es:List Ev)(os:List Ins)(e:Eg):
 ZX prog true NW [e.av, .iv (.pt [nX g]), .iv (.pt [Yv es os])] [] (vb (!B e (Yb es e.Z4) (Yb es e.to))) []:=by
 refine YG kM (by simp) (by decide) rfl ?_;simp-dsimp[a2t, -Rk,Eg.av,Eg.cells]
 refine b9w (s0:=⟨[(4,vb false),(3, .ptr 3 0),(0,e.av),(1, .iv (.pt [nX g])),(2, .iv (.pt [Yv es os]))],[(3, .box (e.cells.map .iv))]⟩)
  (F:=Fb g (Yv es os) e (Yb es e.Z4) (Yb es e.to)) (ops:=b6S) (fin:=b7S) ?_ ?_ _ [] _ ⟨rfl,fun _=>by simp[Eg.av,Eg.cells]⟩ (fun t ht=>by simp at ht) b8S (b8x b9S)
 ·intro q hq;simp only[b6S,a5E,b1E,or_false]at hq
  rcases hq with rfl|rfl|rfl|rfl|rfl|rfl|rfl|rfl|rfl|rfl
  ·exact b6x rfl rfl ⟨rfl,rfl⟩
  ·exact b4x (id:=3) (off:=0) (cs:=e.cells.map .iv) rfl rfl (by simp[Eg.cells]) (.inr ⟨rfl,rfl⟩)
  ·exact b6x rfl rfl ⟨rfl,rfl⟩
  ·exact b5x (o:=0) rfl ⟨rfl,rfl⟩
  ·exact b7x (id:=3) (off:=0) (cs:=e.cells.map .iv) rfl rfl rfl (.inl ⟨rfl,rfl⟩)
  ·exact b3x (b0y es os e.Z4) rfl rfl rfl rfl rfl
  ·exact b6x rfl rfl ⟨rfl,rfl⟩
  ·exact b5x (o:=0) rfl ⟨rfl,rfl⟩
  ·exact b7x (id:=3) (off:=1) (cs:=e.cells.map .iv) rfl rfl rfl (.inl ⟨rfl,rfl⟩)
  ·exact b3x (b0y es os e.to) rfl rfl rfl rfl rfl
 ·intro S s hs hS Zq
  have h5:s.get 5= .iv (nX g):=by
   rw[hs.fr 5,if_pos]
   ·rfl
   ·exact a8C.1 Zq (5,_,_) a4E
  have hle:=hs.le [5,6,10,14] (fun t ht=>by
   simp only[b6S,b0w,List.all_nil,Bool.and_true,a3C]at Zq;simp only[c0p,List.contains_nil,Bool.or_false,b6w,beq_iff_eq]at ht
   rcases ht with rfl|rfl|rfl|rfl
   ·exact Zq.1
   ·exact Zq.2.1
   ·exact Zq.2.2.2.2.2.1
   ·exact Zq.2.2.2.2.2.2.2.2.2) (fun t h1 _=>by
   obtain⟨q,hq,rfl⟩:=hS t h1;simp only[b6S,a5E,b1E,or_false]at hq
   rcases hq with rfl|rfl|rfl|rfl|rfl|rfl|rfl|rfl|rfl|rfl<;>rfl)
  simp only[ZQ,St.ev,h5];refine⟨trivial,trivial,ZY,?_⟩
  show MP prog 15 g [] [.tmp 6, .tmp 10, .tmp 14] [] none s _
  refine d1u hle ?_;refine ZN (hg e (Yb es e.Z4) (Yb es e.to)) (by simp[b7w,Fb,Eg.av,Eg.cells]) (by simp[Eg.av,Eg.cells]) ?_;simp-dsimp[b7w,Fb,b7S]
end Go.Rt
end

section
namespace Go.Rt
open Go.Vm
@[simp]def g7J:=[wx 1 0,wb 2 false]
@[simp]def g8J:=[w0 5 Lx,wm 3 5]
@[simp]def g9J:=[wm 6 3,wu 7 6]
@[simp]def g0K:=[wb 2 false]
@[simp]def g1K:=[ws 8 1 3,Y1 9 WN 8,wm 4 9]
@[simp]def g2K:=[wm 10 4,wu 11 10]
@[simp]def g3K:=[wb 2 true]
@[simp]def f9f:VT:=
 V1 13 XD 12<|Ys 14 1 3<|V1 15 Wc 14<|V2 16 X6 13 15<|ym 2 16<|.done
@[simp]def f0g:VT:=
 Ys 14 1 3<|V1 13 XD 12<|V1 15 Wc 14<|V2 16 X6 13 15<|ym 2 16<|.done
@[simp]def g4K:VT:=
 Ys 12 1 3<|.alt (f9f) (f0g)
@[simp]def g5K:=[wx 2 0,wx 3 1,wb 4 false]
@[simp]def g6K:=[w0 13 Lx,wm 5 13]
@[simp]def g7K:=[wm 14 5,wu 15 14]
@[simp]def g8K:=[wb 4 false]
@[simp]def g9K:=[ws 16 2 3,Y1 17 WN 16,wm 6 17]
@[simp]def g0L:=[wm 18 6,wu 19 18,wm 20 19,Ws 21 20 2 3,X1 22 20 U4 21,Yu 23 20 22,wq 24 20 23]
@[simp]def g1L:=[wb 4 true]
@[simp]def g2L:=[ws 25 2 3,Y1 26 XD 25,wm 7 26]
@[simp]def g3L:=[ws 27 2 3,ws 28 3 3,oo 29 (.call RG [(T 27),(K 0),(T 28)]),wm 8 29]
@[simp]def g4L:=[wk 9 0]
@[simp]def g6g:=[wk 10 0]
@[simp]def g7g:=[wm 30 10,wm 31 7,wn 32 31,wt 33 .lss 30 32]
@[simp]def g8g:VT:=
 ym 36 7<|ym 37 10<|yi 38 8 36 37<|Yf 39 2 38<|yl 40 39<|yc 41 .neq 40 1<|ym 42 41<|V (qm 43 42 7)<|V (qm 44 42 10)<|V (qi 45 42 8 43 44)<|V (jf 46 42 3 45)<|V (ql 47 42 46)<|V (qc 48 42 .neq 47 0)<|vq 49 42 48<|ym 50 49<|V (qm 51 50 7)<|V (qm 52 50 10)<|V (qi 53 50 8 51 52)<|V (jf 54 50 4 53)<|V (Ws 55 50 54 3)<|V (Ws 56 50 3 3)<|V (og 57 50 false (.eqs true [.b, .i .i64, .s] (T 55) (T 56)))<|vq 58 50 57<|.done
@[simp]def g9g:=[wm 59 9,wc 60 .add 59 1,wm 9 60]
@[simp]def g0h:=[wb 11 false]
@[simp]def g1h:=[wk 12 2]
@[simp]def g2h:=[wm 61 12,wm 62 8,wn 63 62,wt 64 .lss 61 63]
@[simp]def g3h:VT:=
 ym 67 11<|ym 68 67<|V (qm 69 68 8)<|V (qm 70 68 12)<|V (qc 71 68 .sub 70 1)<|V (qi 72 68 2 69 71)<|V (jf 73 68 0 72)<|V (ql 74 68 73)<|V (qm 75 68 7)<|V (qm 76 68 10)<|V (qi 77 68 8 75 76)<|V (jf 78 68 0 77)<|V (ql 79 68 78)<|V (qt 80 68 .eql 74 79)<|V (qm 81 68 80)<|V (Ym 82 81 8)<|V (Ym 83 81 12)<|V (Yi 84 81 2 82 83)<|V (qf 85 81 0 84)<|V (Yl 86 81 85)<|V (Ym 87 81 7)<|V (Ym 88 81 10)<|V (Yi 89 81 8 87 88)<|V (qf 90 81 1 89)<|V (Yl 91 81 90)<|V (Yt 92 81 .eql 86 91)<|V (qp 93 68 81 92)<|vq 94 68 93<|ym 11 94<|.done
@[simp]def g4h:=[wm 65 12,wc 66 .add 65 1,wm 12 66]
@[simp]def g5h:=[wm 95 11,wu 96 95]
@[simp]def g6h:=[wb 4 false]
@[simp]def g7h:=[wm 34 10,wc 35 .add 34 1,wm 10 35]
@[simp]def g8h:=[wm 97 9,wm 98 8,wn 99 98,wc 100 .sub 99 2,oo 101 (.mm true [(K 0),(T 100)]),wt 102 .eql 97 101,wm 4 102]
@[simp]def g5L:=[wx 1 0,wb 2 false]
@[simp]def g6L:=[w0 17 Lx,wm 3 17]
@[simp]def g7L:=[wm 18 3,wu 19 18]
@[simp]def g8L:=[wb 2 false]
@[simp]def g9L:=[ws 20 1 3,Y1 21 WN 20,wm 4 21]
@[simp]def g0M:=[wm 22 4,wu 23 22,wm 24 23,Ws 25 24 1 3,X1 26 24 U4 25,Yu 27 24 26,wq 28 24 27]
@[simp]def g1M:=[wb 2 true]
@[simp]def g2M:=[wk 5 1]
@[simp]def g3M:=[wm 29 5,yf 30 1 1,wl 31 30,wn 32 31,wt 33 .lss 29 32]
@[simp]def g4M:VT:=
 Yf 36 1 1<|yl 37 36<|ym 38 5<|yi 39 22 37 38<|Yf 40 1 39<|yl 41 40<|yc 42 .neq 41 1<|ym 43 42<|V (qf 44 43 1 1)<|V (Yl 45 43 44)<|V (Ym 46 43 5)<|V (Yi 47 43 22 45 46)<|V (qf 48 43 0 47)<|V (Yl 49 43 48)<|V (qf 50 43 1 1)<|V (Yl 51 43 50)<|V (Ym 52 43 5)<|V (Yc 53 43 .sub 52 1)<|V (Yi 54 43 22 51 53)<|V (qf 55 43 0 54)<|V (Yl 56 43 55)<|V (Yt 57 43 .neq 49 56)<|yp 58 43 57<|ym 59 58<|V (jf 60 59 1 1)<|V (ql 61 59 60)<|V (qm 62 59 5)<|V (qi 63 59 22 61 62)<|V (jf 64 59 0 63)<|V (ql 65 59 64)<|V (jf 66 59 1 1)<|V (ql 67 59 66)<|V (qm 68 59 5)<|V (qc 69 59 .sub 68 1)<|V (qi 70 59 22 67 69)<|V (jf 71 59 0 70)<|V (ql 72 59 71)<|V (qt 73 59 .lss 65 72)<|vq 74 59 73<|.done
@[simp]def g9h:=[wb 2 true]
@[simp]def g0i:=[wm 34 5,wc 35 .add 34 1,wm 5 35]
@[simp]def g1i:=[wk 6 0]
@[simp]def g2i:=[wm 75 6,yf 76 2 1,wl 77 76,wn 78 77,wt 79 .lss 75 78]
@[simp]def g3i:=[yf 82 2 1,wl 83 82,wm 84 6,wi 85 5 83 84,yf 86 4 85,wl 87 86,wm 7 87]
@[simp]def g4i:=[wk 8 1]
@[simp]def g5i:=[wm 88 8,wm 89 7,wn 90 89,wt 91 .lss 88 90]
@[simp]def g6i:VT:=
 ym 94 7<|ym 95 8<|yi 96 1 94 95<|yl 97 96<|ym 98 7<|ym 99 8<|yc 100 .sub 99 1<|yi 101 1 98 100<|yl 102 101<|vt 103 .lss 97 102<|.done
@[simp]def g7i:=[wb 2 true]
@[simp]def g8i:=[wm 92 8,wc 93 .add 92 1,wm 8 93]
@[simp]def g9i:=[wm 80 6,wc 81 .add 80 1,wm 6 81]
@[simp]def g0j:=[wk 9 0]
@[simp]def g1j:=[wm 104 9,yf 105 1 1,wl 106 105,wn 107 106,wt 108 .lss 104 107]
@[simp]def g2j:=[yf 111 1 1,wl 112 111,wm 113 9,wi 114 22 112 113,ws 115 114 22,oo 10 (.alloc [zi,zi,zi,zi,zb,zi,zs,zi,zi,zi, .nil 3,zi,zi,zb,zi,zs,zb,zi,zs, .nil 9, .nil 5,zb]),wo 10 115 22]
@[simp]def f1g:VT:=
 V (W4 126 119 Lw 120 121 123 125)<|V (qs 128 119 127 2)<|V (og 129 119 true (.eqs true [.i .i64, .i .i64] (T 126) (T 128)))<|yp 130 119 129<|.done
@[simp]def f2g:VT:=
 V (qs 128 119 127 2)<|V (W4 126 119 Lw 120 121 123 125)<|V (og 129 119 true (.eqs true [.i .i64, .i .i64] (T 126) (T 128)))<|yp 130 119 129<|.done
@[simp]def g3j:VT:=
 Yf 116 1 10<|yl 117 116<|yc 118 .eql 117 2<|ym 119 118<|V (qs 120 119 1 3)<|V (Ym 121 119 9)<|V (qf 122 119 3 10)<|V (Yl 123 119 122)<|V (qf 124 119 4 10)<|V (qs 125 119 124 3)<|V (qf 127 119 7 10)<|.alt (f1g) (f2g)
@[simp]def g4j:=[wb 2 true]
@[simp]def g5j:=[yf 131 1 10,wl 132 131,wc 133 .neq 132 4]
@[simp]def g6j:=[wk 11 0]
@[simp]def g7j:=[wm 134 11,yf 135 2 1,wl 136 135,wn 137 136,wt 138 .lss 134 137]
@[simp]def g8j:=[yf 141 2 1,wl 142 141,wm 143 11,wi 144 5 142 143,ws 145 144 5,oo 12 (.alloc [zi,zb,zi,zs, .nil 1]),wo 12 145 5]
@[simp]def g9j:=[yf 146 0 12,wl 147 146,yf 148 3 10,wl 149 148,wt 150 .neq 147 149]
@[simp]def g0k:=[oo 151 (.build [zi,zi] []),oo 13 (.alloc [zi,zi]),wo 13 151 2]
@[simp]def g1k:=[wk 14 0]
@[simp]def g2k:=[wm 152 14,yf 153 20 10,wl 154 153,wn 155 154,wt 156 .lss 152 155]
@[simp]def g3k:VT:=
 Yf 159 20 10<|yl 160 159<|ym 161 14<|yi 162 5 160 161<|Yf 163 0 162<|Ys 164 163 3<|Yf 165 1 12<|Ys 166 165 3<|oc 167 (.eqs false [.b, .i .i64, .s] (T 164) (T 166))<|.done
@[simp]def g4k:=[yf 168 20 10,wl 169 168,wm 170 14,wi 171 5 169 170,yf 172 3 171,ws 173 172 2,wo 13 173 2]
@[simp]def g5k:=[wm 157 14,wc 158 .add 157 1,wm 14 158]
@[simp]def f3g:VT:=
 j4 180 Lw 174 175 177 179<|Ys 181 13 2<|oc 182 (.eqs true [.i .i64, .i .i64] (T 180) (T 181))<|.done
@[simp]def f4g:VT:=
 Ys 181 13 2<|j4 180 Lw 174 175 177 179<|oc 182 (.eqs true [.i .i64, .i .i64] (T 180) (T 181))<|.done
@[simp]def g6k:VT:=
 Ys 174 1 3<|ym 175 9<|Yf 176 0 12<|yl 177 176<|Yf 178 1 12<|Ys 179 178 3<|.alt (f3g) (f4g)
@[simp]def g7k:=[wb 2 true]
@[simp]def g8k:=[wm 139 11,wc 140 .add 139 1,wm 11 140]
@[simp]def g9k:=[wm 109 9,wc 110 .add 109 1,wm 9 110]
@[simp]def g0l:=[ws 183 1 3,Y1 184 XD 183,wm 15 184]
@[simp]def g1l:=[wk 16 0]
@[simp]def g2l:=[wm 185 16,wm 186 15,wn 187 186,wt 188 .lss 185 187]
@[simp]def g3l:VT:=
 ym 191 15<|ym 192 16<|yi 193 8 191 192<|Yf 194 0 193<|yl 195 194<|ym 196 15<|ym 197 16<|yi 198 8 196 197<|Yf 199 1 198<|yl 200 199<|vt 201 .geq 195 200<|.done
@[simp]def g4l:=[wb 2 false]
@[simp]def g5l:=[wm 189 16,wc 190 .add 189 1,wm 16 190]
@[simp]def g6l:=[wb 2 true]
@[simp]def g5M:=[wx 1 0,wb 2 false]
@[simp]def g6M:=[w0 9 Lx,wm 3 9]
@[simp]def g7M:=[wm 10 3,wu 11 10]
@[simp]def g8M:=[wb 2 false]
@[simp]def g9M:=[ws 12 1 3,Y1 13 WN 12,wm 4 13]
@[simp]def g0N:=[wm 14 4,wu 15 14]
@[simp]def g1N:=[wb 2 true]
@[simp]def g2N:=[ws 16 1 3,oo 5 (.alloc [.nil 1, .nil 22, .nil 5]),wo 5 16 3]
@[simp]def g3N:=[yf 17 1 5,on (.st (T 17) (.const (.slice none 0 0)) 1)]
@[simp]def g4N:=[wk 6 0]
@[simp]def g7l:=[wm 18 6,yf 19 1 1,wl 20 19,wn 21 20,wt 22 .lss 18 21]
@[simp]def g8l:=[yf 25 1 1,wl 26 25,wm 27 6,wi 28 22 26 27,ws 29 28 22,oo 7 (.alloc [zi,zi,zi,zi,zb,zi,zs,zi,zi,zi, .nil 3,zi,zi,zb,zi,zs,zb,zi,zs, .nil 9, .nil 5,zb]),wo 7 29 22]
@[simp]def g9l:=[ws 30 1 3,yf 31 0 7,wl 32 31,Y2 33 Uz 30 32,wm 8 33]
@[simp]def g0m:=[wm 34 8,wm 35 34,jf 36 35 1 7,ql 37 35 36,qc 38 35 .neq 37 2,qm 39 35 38,qf 40 39 1 7,Yl 41 39 40,Yc 42 39 .neq 41 4,qp 43 35 39 42,wq 44 35 43]
@[simp]def g1m:=[yf 45 1 5,wl 46 45,ws 47 7 22,oo 48 (.lit 22 1 [(0,(T 47))]),oo 49 (.app 22 248 (T 46) (T 48)),yf 50 1 5,wo 50 49 1]
@[simp]def g2m:=[wm 23 6,wc 24 .add 23 1,wm 6 24]
@[simp]def g3m:=[ws 51 1 3,Y1 52 U4 51,wu 53 52]
@[simp]def g4m:=[ws 54 1 3,Y1 55 XD 54,wn 56 55,wc 57 .eql 56 0,wm 2 57]
@[simp]def f5g:VT:=
 V1 59 XD 58<|Ys 60 1 3<|V1 61 XD 60<|V2 62 X6 59 61<|ym 2 62<|.done
@[simp]def f6g:VT:=
 Ys 60 1 3<|V1 59 XD 58<|V1 61 XD 60<|V2 62 X6 59 61<|ym 2 62<|.done
@[simp]def g5m:VT:=
 Ys 58 5 3<|.alt (f5g) (f6g)
@[simp]def g5N:=[wb 0 false]
@[simp]def g6N:=[oo 4 (.build [zb,zi,zs] [(1,1,(K 5))]),oo 1 (.alloc [zb,zi,zs]),wo 1 4 3]
@[simp]def g7N:=[wz 2 22]
@[simp]def g8N:=[wm 5 2,oo 6 (.build [zi,zi,zi,zi,zb,zi,zs,zi,zi,zi, .nil 3,zi,zi,zb,zi,zs,zb,zi,zs, .nil 9, .nil 5,zb] [(0,1,(K 1)),(1,1,(K 1)),(2,1,(K 1))]),ws 7 1 3,ws 8 1 3,oo 9 (.lit 3 1 [(0,(T 8))]),oo 10 (.build [zi,zi,zi,zi,zb,zi,zs,zi,zi,zi, .nil 3,zi,zi,zb,zi,zs,zb,zi,zs, .nil 9, .nil 5,zb] [(0,1,(K 1)),(1,1,(K 3)),(4,3,(T 7)),(9,1,(K 1)),(10,1,(T 9))]),oo 11 (.build [zi,zi,zi,zi,zb,zi,zs,zi,zi,zi, .nil 3,zi,zi,zb,zi,zs,zb,zi,zs, .nil 9, .nil 5,zb] [(0,1,(K 1)),(1,1,(K 5))]),oo 12 (.lit 22 3 [(0,(T 6)),(1,(T 10)),(2,(T 11))]),oo 13 (.app 22 248 (T 5) (T 12)),wm 2 13]
@[simp]def g9N:=[wm 14 2,oo 15 (.build [zi,zi,zi,zi,zb,zi,zs,zi,zi,zi, .nil 3,zi,zi,zb,zi,zs,zb,zi,zs, .nil 9, .nil 5,zb] [(0,1,(K 2)),(1,1,(K 1)),(2,1,(K 1))]),ws 16 1 3,oo 17 (.build [zi,zi] [(0,1,(K 1)),(1,1,(K 1))]),oo 18 (.build [zi,zi,zi,zi,zb,zi,zs,zi,zi,zi, .nil 3,zi,zi,zb,zi,zs,zb,zi,zs, .nil 9, .nil 5,zb] [(0,1,(K 2)),(1,1,(K 2)),(4,3,(T 16)),(7,2,(T 17))]),oo 19 (.build [zi,zi,zi,zi,zb,zi,zs,zi,zi,zi, .nil 3,zi,zi,zb,zi,zs,zb,zi,zs, .nil 9, .nil 5,zb] [(0,1,(K 2)),(1,1,(K 5))]),oo 20 (.lit 22 3 [(0,(T 15)),(1,(T 18)),(2,(T 19))]),oo 21 (.app 22 248 (T 14) (T 20)),wm 2 21]
@[simp]def g0O:=[wm 22 2,oo 23 (.build [zi,zi,zi,zi,zb,zi,zs,zi,zi,zi, .nil 3,zi,zi,zb,zi,zs,zb,zi,zs, .nil 9, .nil 5,zb] [(0,1,(K 3)),(1,1,(K 1)),(2,1,(K 1))]),ws 24 1 3,oo 25 (.build [zi,zi,zi,zi,zb,zi,zs,zi,zi,zi, .nil 3,zi,zi,zb,zi,zs,zb,zi,zs, .nil 9, .nil 5,zb] [(0,1,(K 3)),(1,1,(K 3)),(4,3,(T 24)),(9,1,(K 1))]),oo 26 (.build [zi,zi,zi,zi,zb,zi,zs,zi,zi,zi, .nil 3,zi,zi,zb,zi,zs,zb,zi,zs, .nil 9, .nil 5,zb] [(0,1,(K 3)),(1,1,(K 5))]),oo 27 (.lit 22 3 [(0,(T 23)),(1,(T 25)),(2,(T 26))]),oo 28 (.app 22 248 (T 22) (T 27)),wm 2 28]
@[simp]def g1O:=[oo 29 (.lit 1 1 [(0,(B false))]),oo 30 (.build [.nil 1] [(0,1,(T 29))]),oo 31 (.lit 1 1 [(0,(T 30))]),wm 32 2,ws 33 1 3,oo 34 (.lit 1 2 [(0,(K 1)),(1,(K 3))]),oo 35 (.build [zi,zb,zi,zs, .nil 1] [(1,3,(T 33)),(4,1,(T 34))]),oo 36 (.lit 5 1 [(0,(T 35))]),oo 37 (.build [.nil 1, .nil 22, .nil 5] [(0,1,(T 31)),(1,1,(T 32)),(2,1,(T 36))]),Y1 38 XD 37,wm 3 38]
@[simp]def g2O:VT:=
 ym 39 3<|vn 40 39<|yc 41 .eql 40 3<|ym 42 41<|V (Ym 43 42 3)<|V (og 44 42 true (.ia 8 (T 43) (K 0)))<|V (qs 45 42 44 8)<|V (qs 46 42 1 3)<|V (og 47 42 true (.build [zi,zi,zi,zi,zb,zi,zs,zb] [(0,1,(K 1)),(1,1,(K 2)),(2,1,(K 2)),(4,3,(T 46))]))<|V (og 48 42 true (.eqs false [.i .i64, .i .i64, .i .i64, .i .i64, .b, .i .i64, .s, .b] (T 45) (T 47)))<|yp 49 42 48<|ym 50 49<|V (Ym 51 50 3)<|V (og 52 50 true (.ia 8 (T 51) (K 1)))<|V (qs 53 50 52 8)<|V (qs 54 50 1 3)<|V (og 55 50 true (.build [zi,zi,zi,zi,zb,zi,zs,zb] [(0,1,(K 1)),(1,1,(K 3)),(2,1,(K 1)),(4,3,(T 54))]))<|V (og 56 50 true (.eqs false [.i .i64, .i .i64, .i .i64, .i .i64, .b, .i .i64, .s, .b] (T 53) (T 55)))<|yp 57 50 56<|ym 58 57<|V (Ym 59 58 3)<|V (og 60 58 true (.ia 8 (T 59) (K 2)))<|V (qs 61 58 60 8)<|V (qs 62 58 1 3)<|V (og 63 58 true (.build [zi,zi,zi,zi,zb,zi,zs,zb] [(0,1,(K 2)),(1,1,(K 3)),(2,1,(K 4)),(4,3,(T 62))]))<|V (og 64 58 true (.eqs false [.i .i64, .i .i64, .i .i64, .i .i64, .b, .i .i64, .s, .b] (T 61) (T 63)))<|yp 65 58 64<|ym 0 65<|.done
@[simp]def f7g:=[wb 4 false]
@[simp]def f8g:=[wm 6 0,wn 7 6,wm 8 1,wn 9 8,wt 10 .neq 7 9]
@[simp]def f9g:=[wb 4 false]
@[simp]def f0h:=[wk 5 0]
@[simp]def f1h:=[wm 11 5,wm 12 0,wn 13 12,wt 14 .lss 11 13]
@[simp]def f2h:VT:=
 ym 17 0<|ym 18 5<|yi 19 8 17 18<|Ys 20 19 8<|ym 21 1<|ym 22 5<|yi 23 8 21 22<|Ys 24 23 8<|oc 25 (.eqs true [.i .i64, .i .i64, .i .i64, .i .i64, .b, .i .i64, .s, .b] (T 20) (T 24))<|.done
@[simp]def f3h:=[wb 4 false]
@[simp]def f4h:=[wm 15 5,wc 16 .add 15 1,wm 5 16]
def Ea:Z9:=
 (Q (QR f1h (CX 14 0)) (Q (.block 1 (Q (.any f2h) (CR 25 f3h))) (R f4h)))
@[simp]def f5h:=[wb 4 true]
def a9i:Z9:=(QR f7g (Q (QR f8g (CR 10 f9g)) (Q (QR f0h (.block 0 (.loop Ea))) (QR f5h .ret))))
theorem f6h:ZG prog X6=some (26,a9i,[.tmp 4]):=by kernel_rfl
@[simp]def f7h:=[wx 1 0,wz 2 8]
@[simp]def f8h:=[ws 12 1 3,Y1 13 U0 12,wm 3 13]
@[simp]def f9h:=[wm 14 3,oo 15 (.peq false (T 14) (.const (.pointer none)))]
@[simp]def f0i:=[wz 2 8]
@[simp]def f1i:=[ws 16 1 3,wm 17 3,oo 18 (.XB (true,[.i .i64, .i .i64, .i .i64, .i .i64, .b, .i .i64, .s, .b],false)),oo 19 (.build [.nil 1, .nil 22, .nil 5, .iv (.v (.pointer none)), .iv (.v (.map none))] [(0,3,(T 16)),(3,1,(T 17)),(4,1,(T 18))]),wx 20 19,wm 4 20]
@[simp]def f2i:=[yf 21 0 1,wl 22 21,wn 23 22,wk 24 0]
@[simp]def f3i:=[wt 25 .lss 24 23]
@[simp]def f4i:=[wm 26 24,wm 5 26]
@[simp]def f5i:=[wm 27 4,wm 28 5,Y2 29 Lp 27 28]
@[simp]def f6i:=[wc 30 .add 24 1,wm 24 30]
def KF:Z9:=
 (QR f3i (Q (CX 25 0) (Q (.block 1 (QR f4i (R f5i))) (R f6i))))
@[simp]def sx:=[oo 31 (.XB (false,[.i .i64],false)),wm 6 31]
@[simp]def sw:=[wm 32 3,Y1 33 N8 32,wn 34 33,wk 35 0]
@[simp]def sv:=[wt 36 .lss 35 34]
@[simp]def su:=[wi 37 1 33 35,wl 38 37,wm 8 38]
@[simp]def sn:=[wm 39 6,wm 40 8,on (.Yy (false,[.i .i64],false) (T 39) (T 40) (K 1))]
@[simp]def sm:=[wc 41 .add 35 1,wm 35 41]
def KE:Z9:=
 (QR sv (Q (CX 36 2) (Q (.block 3 (QR su (R sn))) (R sm))))
@[simp]def sj:=[yf 42 1 1,wl 43 42,wn 44 43,wk 45 0]
@[simp]def sg:=[wt 46 .lss 45 44]
@[simp]def sf:=[wi 47 22 43 45,ws 48 47 22,oo 10 (.alloc [zi,zi,zi,zi,zb,zi,zs,zi,zi,zi, .nil 3,zi,zi,zb,zi,zs,zb,zi,zs, .nil 9, .nil 5,zb]),wo 10 48 22]
@[simp]def se:=[wm 50 6,yf 51 0 10,wl 52 51,oo 53 (.UE (false,[.i .i64],false) [zi] (T 50) (T 52) false),wc 54 .eql 53 0,wm 49 54]
@[simp]def sd:=[yf 56 1 10,wl 57 56,wc 58 .eql 57 2,wm 55 58]
@[simp]def sc:=[wm 59 4,ws 60 10 22,Y2 61 Ln 59 60]
@[simp]def sb:=[yf 63 1 10,wl 64 63,wc 65 .eql 64 4,wm 62 65]
@[simp]def sa:=[wm 66 4,ws 67 10 22,Y2 68 Lm 66 67]
@[simp]def r9:=[wc 69 .add 45 1,wm 45 69]
def KD:Z9:=
 (QR sg (Q (CX 46 4) (Q (.block 5 (QR sf (.block 6 (QR se (CT 49 .skip (QR sd (CT 55 (R sc) (QR sb (CT 62 (R sa) .skip))))))))) (R r9))))
@[simp]def r8:=[wm 70 4,wh 71 70,yf 72 4 71,wl 73 72,Y1 74 Ll 73,Y1 75 GG 74,wm 11 75]
@[simp]def rZ:=[wm 76 11,oo 77 (.call N7 [(T 76),(.func Ux)])]
@[simp]def rY:=[wm 78 11,wm 2 78]
def a0j:Z9:=(QR f7h (QR f8h (Q (QR f9h (CR 15 f0i)) (QR f1i (Q (QR f2i (.block 0 (.loop KF))) (QR sx (Q (QR sw (.block 2 (.loop KE))) (Q (QR sj (.block 4 (.loop KD))) (QR r8 (QR rZ (QR rY .ret)))))))))))
theorem Fy:ZG prog XD=some (79,a0j,[.tmp 2]):=by kernel_rfl
@[simp]def f7i:=[wx 1 0,wz 2 8]
@[simp]def f8i:=[ws 11 1 3,Y1 12 U4 11,wm 3 12]
@[simp]def f9i:=[wm 13 3,wu 14 13]
@[simp]def f0j:=[wz 2 8]
@[simp]def f1j:=[wz 4 8]
@[simp]def f2j:=[wk 5 0]
@[simp]def f3j:=[wm 15 5,yf 16 2 1,wl 17 16,wn 18 17,wt 19 .lss 15 18]
@[simp]def f4j:=[yf 22 2 1,wl 23 22,wm 24 5,wi 25 5 23 24,ws 26 25 5,oo 6 (.alloc [zi,zb,zi,zs, .nil 1]),wo 6 26 5]
@[simp]def f5j:=[wk 7 1]
@[simp]def f6j:=[wm 27 7,yf 28 4 6,wl 29 28,wn 30 29,wt 31 .lss 27 30]
@[simp]def rX:VT:=
 ym 34 4<|Yf 35 4 6<|yl 36 35<|ym 37 7<|yc 38 .sub 37 1<|yi 39 1 36 38<|yl 40 39<|Yf 41 4 6<|yl 42 41<|ym 43 7<|yi 44 1 42 43<|yl 45 44<|Yf 46 0 6<|yl 47 46<|Yf 48 1 6<|Ys 49 48 3<|oc 50 (.build [zi,zi,zi,zi,zb,zi,zs,zb] [(0,1,(T 40)),(1,1,(T 45)),(2,1,(K 1)),(3,1,(T 47)),(4,3,(T 49))])<|V2 51 SO 34 50<|ym 4 51<|.done
@[simp]def rW:=[wm 32 7,wc 33 .add 32 1,wm 7 33]
def OH:Z9:=
 (Q (QR f6j (CX 31 2)) (Q (.block 3 (.any rX)) (R rW)))
@[simp]def rV:=[wm 20 5,wc 21 .add 20 1,wm 5 21]
def OG:Z9:=
 (Q (QR f3j (CX 19 0)) (Q (.block 1 (QR f4j (QR f5j (.block 2 (.loop OH))))) (R rV)))
@[simp]def rU:=[wk 8 0]
@[simp]def rT:=[wm 52 8,yf 53 1 1,wl 54 53,wn 55 54,wt 56 .lss 52 55]
@[simp]def rS:=[yf 59 1 1,wl 60 59,wm 61 8,wi 62 22 60 61,ws 63 62 22,oo 9 (.alloc [zi,zi,zi,zi,zb,zi,zs,zi,zi,zi, .nil 3,zi,zi,zb,zi,zs,zb,zi,zs, .nil 9, .nil 5,zb]),wo 9 63 22]
@[simp]def rR:=[ws 64 1 3,yf 65 0 9,wl 66 65,Y2 67 Uz 64 66,wm 10 67]
@[simp]def rQ:=[wm 68 10,wm 69 68,qf 70 69 1 9,Yl 71 69 70,Yc 72 69 .eql 71 2,wp 73 69 72]
@[simp]def rP:=[ws 74 1 3,wm 75 4,ws 76 9 22,Y3 77 GD 74 75 76,wm 4 77]
@[simp]def rO:=[wm 78 10,wm 79 78,qf 80 79 1 9,Yl 81 79 80,Yc 82 79 .eql 81 4,wp 83 79 82]
@[simp]def rN:=[ws 84 1 3,wm 85 4,ws 86 9 22,Y3 87 GC 84 85 86,wm 4 87]
@[simp]def rM:=[wm 57 8,wc 58 .add 57 1,wm 8 58]
def OE:Z9:=
 (Q (QR rT (CX 56 4)) (Q (.block 5 (QR rS (QR rR (Q (QR rQ (CT 73 (R rP) .skip)) (QR rO (CT 83 (R rN) .skip)))))) (R rM)))
@[simp]def rL:=[wm 88 4,wm 2 88]
def a1j:Z9:=(QR f7i (QR f8i (Q (QR f9i (CR 14 f0j)) (QR f1j (Q (QR f2j (.block 0 (.loop OG))) (Q (QR rU (.block 4 (.loop OE))) (QR rL .ret)))))))
theorem f7j:ZG prog Wc=some (89,a1j,[.tmp 2]):=by kernel_rfl
@[simp]def g3O:=[wx 4 0,wx 7 3,oo 8 (.alloc [zi,zi])]
@[simp]def g4O:=[oo 13 (.build [zi,zi] []),oo 9 (.alloc [zi,zi]),wo 9 13 2]
@[simp]def g5O:=[wk 10 0]
@[simp]def g6O:=[wm 14 10,wm 15 1,wt 16 .lss 14 15]
@[simp]def g7O:=[yf 19 1 4,wl 20 19,wm 21 10,wi 22 22 20 21,ws 23 22 22,oo 11 (.alloc [zi,zi,zi,zi,zb,zi,zs,zi,zi,zi, .nil 3,zi,zi,zb,zi,zs,zb,zi,zs, .nil 9, .nil 5,zb]),wo 11 23 22]
@[simp]def g8O:=[ws 24 4 3,yf 25 0 11,wl 26 25,Y2 27 Uz 24 26,wm 12 27]
@[simp]def g9O:VT:=
 Yf 28 1 11<|yl 29 28<|yc 30 .eql 29 3<|ym 31 30<|V (qf 32 31 3 11)<|V (Yl 33 31 32)<|V (Ym 34 31 2)<|V (Yt 35 31 .eql 33 34)<|yp 36 31 35<|ym 37 36<|V (qf 38 37 4 11)<|V (qs 39 37 38 3)<|V (qs 40 37 7 3)<|V (og 41 37 true (.eqs false [.b, .i .i64, .s] (T 39) (T 40)))<|yp 42 37 41<|ym 43 42<|V (Ym 44 43 12)<|V (Ym 45 43 44)<|V (jf 46 45 0 11)<|V (ql 47 45 46)<|V (jf 48 45 1 4)<|V (ql 49 45 48)<|V (qm 50 45 1)<|V (qi 51 45 22 49 50)<|V (jf 52 45 0 51)<|V (ql 53 45 52)<|V (qt 54 45 .eql 47 53)<|V (yq 55 43 45 54)<|yp 56 43 55<|.done
@[simp]def g0P:=[yf 57 0 11,wl 58 57,yf 59 9 11,wl 60 59,oo 61 (.build [zi,zi] [(0,1,(T 58)),(1,1,(T 60))]),wo 9 61 2]
@[simp]def g1P:=[wm 17 10,wc 18 .add 17 1,wm 10 18]
@[simp]def g6m:=[ws 62 9 2,wo 8 62 2]
@[simp]def f8j:=[wx 2 0,wx 3 1]
@[simp]def f9j:=[wl 7 2,wl 8 3,Y2 9 N1 7 8]
@[simp]def f0k:=[oo 4 (.alloc [zb,zi,zs]),wo 4 10 3]
@[simp]def f1k:=[wm 5 11]
@[simp]def f2k:=[wk 6 2]
@[simp]def f3k:=[wm 12 6,wm 13 5,wn 14 13,wt 15 .lss 12 14]
@[simp]def f4k:VT:=
 yl 18 2<|ym 19 5<|ym 20 6<|yc 21 .sub 20 1<|yi 22 2 19 21<|Yf 23 0 22<|yl 24 23<|ym 25 5<|ym 26 6<|yi 27 2 25 26<|Yf 28 0 27<|yl 29 28<|yl 30 3<|Ys 31 4 3<|oc 32 (.build [zi,zi,zi,zi,zb,zi,zs,zb] [(0,1,(T 24)),(1,1,(T 29)),(2,1,(K 1)),(3,1,(T 30)),(4,3,(T 31))])<|V2 33 RC 18 32<|.done
@[simp]def f5k:=[wm 16 6,wc 17 .add 16 1,wm 6 17]
def D9:Z9:=
 (Q (QR f3k (CX 15 2)) (Q (.block 3 (.any f4k)) (R f5k)))
def D8:Z9:=
 (QR f0k (R f1k))
def Jb:Z9:=
 (.block 1 (QR f2k (.block 2 (.loop D9))))
def Q0:Z9:=(QR f8j (QR f9j (.block 0 (.QB (T 9) [10,11] D8 Jb))))
theorem f6k:ZG prog Lp=some (34,Q0,[]):=by kernel_rfl
@[simp]def f7k:=[wx 3 1]
@[simp]def f8k:VT:=
 ym 6 0<|vh 7 6<|Yf 8 3 7<|yl 9 8<|Yf 10 3 3<|yl 11 10<|Yf 12 4 3<|Ys 13 12 3<|Yf 14 7 3<|Ys 15 14 2<|j4 16 Lc 9 11 13 15<|ym 4 16<|.done
@[simp]def f9k:VT:=
 ym 17 0<|vh 18 17<|Yf 19 3 18<|yl 20 19<|Yf 21 3 3<|yl 22 21<|Yf 23 4 3<|Ys 24 23 3<|W3 25 N0 20 22 24<|ym 5 25<|.done
@[simp]def f0l:=[wm 26 4,wc 27 .gtr 26 0]
@[simp]def f1l:=[wm 28 0,yf 29 7 3,yf 30 0 29,wl 31 30,yf 32 0 3,wl 33 32,yf 34 3 3,wl 35 34,yf 36 4 3,ws 37 36 3,yf 38 21 3,wl 39 38,oo 40 (.build [zi,zi,zi,zi,zb,zi,zs,zb] [(0,1,(T 31)),(1,1,(T 33)),(2,1,(K 2)),(3,1,(T 35)),(4,3,(T 37)),(7,1,(T 39))]),Y2 41 RC 28 40]
@[simp]def f2l:=[wm 42 4,wc 43 .geq 42 0,wm 44 43,Ym 45 44 4,Yc 46 44 .add 45 1,Ym 47 44 5,yn 48 44 47,Yt 49 44 .lss 46 48,wp 50 44 49,wm 51 50,qf 52 51 7 3,qf 53 51 0 52,Yl 54 51 53,qf 55 51 0 3,Yl 56 51 55,Yt 57 51 .neq 54 56,wp 58 51 57]
@[simp]def f3l:VT:=
 ym 59 0<|Yf 60 0 3<|yl 61 60<|ym 62 5<|ym 63 4<|yc 64 .add 63 1<|yi 65 2 62 64<|Yf 66 0 65<|yl 67 66<|Yf 68 3 3<|yl 69 68<|Yf 70 4 3<|Ys 71 70 3<|Yf 72 21 3<|yl 73 72<|oc 74 (.build [zi,zi,zi,zi,zb,zi,zs,zb] [(0,1,(T 61)),(1,1,(T 67)),(2,1,(K 4)),(3,1,(T 69)),(4,3,(T 71)),(7,1,(T 73))])<|V2 75 RC 59 74<|.done
def Nf:Z9:=(QR f7k (Q (.any f8k) (Q (.any f9k) (Q (QR f0l (CT 27 (R f1l) .skip)) (QR f2l (CT 58 (.any f3l) .skip))))))
theorem f7f:ZG prog Ln=some (76,Nf,[]):=by kernel_rfl
@[simp]def f4l:=[wx 2 0,wx 3 1]
@[simp]def f5l:=[oo 12 (.XB (true,[.b, .i .i64, .s],true)),oo 4 (.alloc [.iv (.v (.map none))]),wo 4 12 1]
@[simp]def f6l:=[yf 13 20 3,wl 14 13,wn 15 14,wk 16 0]
@[simp]def f7l:=[wt 17 .lss 16 15]
@[simp]def f8l:=[wi 18 5 14 16,ws 19 18 5,oo 6 (.alloc [zb,zi,zs,zi,zi]),wo 6 19 5]
@[simp]def f9l:=[wl 20 4,yf 21 0 6,ws 22 21 3,yf 23 3 6,ws 24 23 2,on (.Yy (true,[.b, .i .i64, .s],true) (T 20) (T 22) (T 24))]
@[simp]def f0m:=[wc 25 .add 16 1,wm 16 25]
def D7:Z9:=
 (QR f7l (Q (CX 17 0) (Q (.block 1 (QR f8l (R f9l))) (R f0m))))
@[simp]def f1m:=[wl 26 2,yf 27 3 3,wl 28 27,Y2 29 N1 26 28]
@[simp]def f2m:=[oo 7 (.alloc [zb,zi,zs]),wo 7 30 3]
@[simp]def rK:=[wm 8 31]
@[simp]def rJ:=[wl 32 4,ws 33 7 3,oo 34 (.UE (true,[.b, .i .i64, .s],true) [zi,zi] (T 32) (T 33) false),oo 9 (.alloc [zi,zi]),wo 9 34 2]
@[simp]def rI:VT:=
 yl 35 2<|vh 36 35<|Yf 37 3 36<|yl 38 37<|Yf 39 3 3<|yl 40 39<|Ys 41 7 3<|Ys 42 9 2<|j4 43 Lc 38 40 41 42<|ym 10 43<|.done
@[simp]def rH:=[wm 44 10,wc 45 .lss 44 0,wm 46 45,jf 47 46 0 9,ql 48 46 47,jf 49 46 0 3,ql 50 46 49,qt 51 46 .eql 48 50,wq 52 46 51]
@[simp]def rG:=[wm 53 8,wn 54 53,wk 55 0]
@[simp]def rF:=[wt 56 .lss 55 54]
@[simp]def rE:=[wm 57 55,wm 11 57]
@[simp]def rD:VT:=
 yl 72 2<|vh 73 72<|Yf 74 3 73<|yl 75 74<|Yf 76 3 3<|yl 77 76<|Ys 78 7 3<|ym 79 11<|Yf 80 11 3<|Ys 81 80 9<|j5 82 Lb 75 77 78 79 81<|vu 83 82<|ym 71 83<|.done
@[simp]def rC:=[wm 85 11,wm 86 10,wt 87 .leq 85 86,wm 84 87]
@[simp]def rB:VT:=
 yl 88 2<|ym 89 8<|ym 90 11<|yi 91 2 89 90<|Yf 92 0 91<|yl 93 92<|Yf 94 0 3<|yl 95 94<|Yf 96 3 3<|yl 97 96<|Ys 98 7 3<|oc 99 (.build [zi,zi,zi,zi,zb,zi,zs,zb] [(0,1,(T 93)),(1,1,(T 95)),(2,1,(K 3)),(3,1,(T 97)),(4,3,(T 98))])<|V2 100 RC 88 99<|.done
@[simp]def rA:VT:=
 yl 58 2<|Yf 59 0 3<|yl 60 59<|ym 61 8<|ym 62 11<|yi 63 2 61 62<|Yf 64 0 63<|yl 65 64<|Yf 66 3 3<|yl 67 66<|Ys 68 7 3<|oc 69 (.build [zi,zi,zi,zi,zb,zi,zs,zb] [(0,1,(T 60)),(1,1,(T 65)),(2,1,(K 5)),(3,1,(T 67)),(4,3,(T 68))])<|V2 70 RC 58 69<|.done
@[simp]def rz:=[wc 101 .add 55 1,wm 55 101]
def Ja:Z9:=
 (QR rF (Q (CX 56 4) (Q (.block 5 (QR rE (.block 6 (Q (.any rD) (CT 71 .skip (QR rC (CT 84 (.any rB) (.any rA)))))))) (R rz))))
def I9:Z9:=
 (QR f2m (R rK))
def I8:Z9:=
 (.block 3 (QR rJ (Q (.any rI) (Q (QR rH (CT 52 (.exit 3) .skip)) (QR rG (.block 4 (.loop Ja)))))))
def I7:Z9:=(QR f4l (QR f5l (Q (QR f6l (.block 0 (.loop D7))) (QR f1m (.block 2 (.QB (T 29) [30,31] I9 I8))))))
theorem f3m:ZG prog Lm=some (102,I7,[]):=by kernel_rfl
@[simp]def f4m:=[wz 2 8]
@[simp]def f5m:=[wm 3 0,oo 4 (.call Gt [(.const (.slice none 0 0)),(T 3)]),wm 2 4]
def a7j:Z9:=(QR f4m (QR f5m .ret))
theorem f6m:ZG prog GG=some (5,a7j,[.tmp 2]):=by kernel_rfl
@[simp]def f7m:=[wx 1 0,oo 2 (.QH (.const .nilFunc))]
@[simp]def f8m:=[oo 3 (.VO Qa [] [(T 1)]),wm 2 3]
def I6:Z9:=(QR f7m (QR f8m .ret))
theorem f9m:ZG prog Ll=some (4,I6,[.tmp 2]):=by kernel_rfl
@[simp]def f0n:=[wx 2 0,wx 3 1,wk 4 0]
@[simp]def f1n:=[ws 6 2 8,ws 7 3 8,Y2 8 GF 6 7,wm 5 8]
@[simp]def f2n:=[wm 9 5,wc 10 .neq 9 0,wm 11 10,jf 12 11 7 2,ql 13 11 12,jf 14 11 7 3,ql 15 11 14,og 16 11 false (.beq false (T 13) (T 15)),wq 17 11 16]
@[simp]def f3n:=[wm 18 5,wm 4 18]
@[simp]def f4n:=[yf 19 7 3,wl 20 19]
@[simp]def f5n:=[wk 4 (-1)]
@[simp]def f6n:=[wk 4 1]
def a0k:Z9:=(QR f0n (Q (QR f1n (QR f2n (CR 17 f3n))) (Q (QR f4n (CR 20 f5n)) (QR f6n .ret))))
theorem f3f:ZG prog Ux=some (21,a0k,[.tmp 4]):=by kernel_rfl
@[simp]def f7n:=[wx 2 0,wx 3 1,wk 4 0]
@[simp]def f8n:=[yf 7 0 2,wl 8 7,yf 9 0 3,wl 10 9,wt 11 .sub 8 10,yf 12 1 2,wl 13 12,yf 14 1 3,wl 15 14,wt 16 .sub 13 15,yf 17 2 2,wl 18 17,yf 19 2 3,wl 20 19,wt 21 .sub 18 20,yf 22 3 2,wl 23 22,yf 24 3 3,wl 25 24,wt 26 .sub 23 25,oo 27 (.build [zi,zi,zi,zi] [(0,1,(T 11)),(1,1,(T 16)),(2,1,(T 21)),(3,1,(T 26))]),wk 28 0]
@[simp]def f9n:=[wc 29 .lss 28 4]
@[simp]def f0o:=[oo 30 (.ix 4 (T 27) (T 28)),wm 6 30]
@[simp]def f1o:=[wm 31 6,wc 32 .neq 31 0]
@[simp]def f2o:=[wm 33 6,wm 4 33]
@[simp]def f3o:=[wc 34 .add 28 1,wm 28 34]
def V0:Z9:=
 (QR f9n (Q (CX 29 0) (Q (.block 1 (QR f0o (QR f1o (CR 32 f2o)))) (R f3o))))
@[simp]def f4o:=[yf 35 4 2,ws 36 35 3,yf 37 4 3,ws 38 37 3,Y2 39 P9 36 38,wm 4 39]
def d0g:Z9:=(QR f7n (Q (QR f8n (.block 0 (.loop V0))) (QR f4o .ret)))
theorem f2f:ZG prog GF=some (40,d0g,[.tmp 4]):=by kernel_rfl
@[simp]def f5o:=[wx 3 1,wz 4 8]
@[simp]def f6o:=[yf 7 0 3,wl 8 7,yf 9 1 3,wl 10 9,wt 11 .eql 8 10]
@[simp]def f7o:=[wm 12 0,wm 4 12]
@[simp]def f8o:=[wk 5 0]
@[simp]def f9o:VT:=
 ym 13 5<|ym 14 0<|vn 15 14<|vt 16 .lss 13 15<|ym 17 16<|V (Ym 18 17 0)<|V (Ym 19 17 5)<|V (Yi 20 17 8 18 19)<|V (qs 21 17 20 8)<|V (qs 22 17 3 8)<|V (U2 23 17 Gs 21 22)<|yp 24 17 23<|.done
@[simp]def f0p:=[wm 25 5,wc 26 .add 25 1,wm 5 26]
def Mb:Z9:=
 (Q (Q (.any f9o) (CX 24 0)) (.block 1 (R f0p)))
@[simp]def f1p:VT:=
 ym 27 5<|ym 28 0<|vn 29 28<|vt 30 .lss 27 29<|ym 31 30<|V (Ym 32 31 0)<|V (Ym 33 31 5)<|V (Yi 34 31 8 32 33)<|V (qs 35 31 34 8)<|V (qs 36 31 3 8)<|V (og 37 31 true (.eqs false [.i .i64, .i .i64, .i .i64, .i .i64, .b, .i .i64, .s, .b] (T 35) (T 36)))<|yp 38 31 37<|.done
@[simp]def f2p:=[wm 39 0,wm 4 39]
@[simp]def f3p:=[wz 6 8]
@[simp]def ru:=[wm 40 6,wm 41 0,wm 42 5,oo 43 (.cut 8 (T 41) none (some (T 42))),oo 44 (.app 8 72 (T 40) (T 43)),wm 6 44]
@[simp]def rr:=[wm 45 6,ws 46 3 8,oo 47 (.lit 8 1 [(0,(T 46))]),oo 48 (.app 8 72 (T 45) (T 47)),wm 6 48]
@[simp]def rq:=[wm 49 6,wm 50 0,wm 51 5,oo 52 (.cut 8 (T 50) (some (T 51)) none),oo 53 (.app 8 72 (T 49) (T 52)),wm 4 53]
def d1g:Z9:=(QR f5o (Q (QR f6o (CR 11 f7o)) (QR f8o (Q (.block 0 (.loop Mb)) (Q (Q (.any f1p) (CR 38 f2p)) (QR f3p (QR ru (QR rr (QR rq .ret)))))))))
theorem di:ZG prog SO=some (54,d1g,[.tmp 4]):=by kernel_rfl
@[simp]def f4p:=[wx 3 0,wx 5 2,wz 6 8]
@[simp]def f5p:=[ws 9 3 3,yf 10 3 5,wl 11 10,yf 12 4 5,ws 13 12 3,Y3 14 RG 9 11 13,wm 7 14]
@[simp]def f6p:=[ws 15 3 3,yf 16 3 5,wl 17 16,yf 18 4 5,ws 19 18 3,yf 20 7 5,ws 21 20 2,Y4 22 La 15 17 19 21,wm 8 22]
@[simp]def f7p:=[wm 23 8,wc 24 .lss 23 0]
@[simp]def f8p:=[wm 25 1,wm 6 25]
@[simp]def f9p:=[wm 26 8,wc 27 .gtr 26 0]
@[simp]def f0q:=[wm 28 1,yf 29 7 5,yf 30 0 29,wl 31 30,yf 32 0 5,wl 33 32,yf 34 3 5,wl 35 34,yf 36 4 5,ws 37 36 3,yf 38 21 5,wl 39 38,oo 40 (.build [zi,zi,zi,zi,zb,zi,zs,zb] [(0,1,(T 31)),(1,1,(T 33)),(2,1,(K 2)),(3,1,(T 35)),(4,3,(T 37)),(7,1,(T 39))]),Y2 41 SO 28 40,wm 1 41]
@[simp]def f1q:=[wm 42 8,wc 43 .add 42 1,wm 44 7,wn 45 44,wt 46 .lss 43 45,wm 47 46,qf 48 47 7 5,qf 49 47 0 48,Yl 50 47 49,qf 51 47 0 5,Yl 52 47 51,Yt 53 47 .neq 50 52,wp 54 47 53]
@[simp]def f2q:VT:=
 ym 55 1<|Yf 56 0 5<|yl 57 56<|ym 58 7<|ym 59 8<|yc 60 .add 59 1<|yi 61 2 58 60<|Yf 62 0 61<|yl 63 62<|Yf 64 3 5<|yl 65 64<|Yf 66 4 5<|Ys 67 66 3<|Yf 68 21 5<|yl 69 68<|oc 70 (.build [zi,zi,zi,zi,zb,zi,zs,zb] [(0,1,(T 57)),(1,1,(T 63)),(2,1,(K 4)),(3,1,(T 65)),(4,3,(T 67)),(7,1,(T 69))])<|V2 71 SO 55 70<|ym 1 71<|.done
@[simp]def f3q:=[wm 72 1,wm 6 72]
def d2g:Z9:=(QR f4p (QR f5p (QR f6p (Q (QR f7p (CR 24 f8p)) (Q (QR f9p (CT 27 (R f0q) .skip)) (Q (QR f1q (CT 54 (.any f2q) .skip)) (QR f3q .ret)))))))
theorem f4q:ZG prog GD=some (73,d2g,[.tmp 6]):=by kernel_rfl
@[simp]def f5q:=[wx 3 0,wx 5 2,wz 6 8]
@[simp]def f6q:=[wk 7 0]
@[simp]def f7q:=[wm 15 7,yf 16 2 3,wl 17 16,wn 18 17,wt 19 .lss 15 18]
@[simp]def f8q:=[yf 22 2 3,wl 23 22,wm 24 7,wi 25 5 23 24,ws 26 25 5,oo 8 (.alloc [zi,zb,zi,zs, .nil 1]),wo 8 26 5]
@[simp]def f9q:=[yf 27 0 8,wl 28 27,yf 29 3 5,wl 30 29,wt 31 .neq 28 30]
@[simp]def f0r:=[oo 32 (.build [zi,zi] []),oo 9 (.alloc [zi,zi]),wo 9 32 2]
@[simp]def f1r:=[wk 10 0]
@[simp]def f2r:=[wm 33 10,yf 34 20 5,wl 35 34,wn 36 35,wt 37 .lss 33 36]
@[simp]def f3r:VT:=
 Yf 40 20 5<|yl 41 40<|ym 42 10<|yi 43 5 41 42<|Yf 44 0 43<|Ys 45 44 3<|Yf 46 1 8<|Ys 47 46 3<|oc 48 (.eqs false [.b, .i .i64, .s] (T 45) (T 47))<|.done
@[simp]def f4r:=[yf 49 20 5,wl 50 49,wm 51 10,wi 52 5 50 51,yf 53 3 52,ws 54 53 2,wo 9 54 2]
@[simp]def rn:=[wm 38 10,wc 39 .add 38 1,wm 10 39]
def RP:Z9:=
 (Q (QR f2r (CX 37 2)) (Q (.block 3 (Q (.any f3r) (CT 48 (R f4r) .skip))) (R rn)))
@[simp]def rm:=[ws 55 3 3,yf 56 0 8,wl 57 56,yf 58 1 8,ws 59 58 3,ws 60 9 2,Y4 61 La 55 57 59 60,wm 11 61]
@[simp]def rk:=[yf 62 0 9,wl 63 62,yf 64 0 5,wl 65 64,wt 66 .eql 63 65,wm 67 66,qm 68 67 11,qc 69 67 .lss 68 0,wq 70 67 69]
@[simp]def rj:=[ws 71 3 3,yf 72 0 8,wl 73 72,yf 74 1 8,ws 75 74 3,Y3 76 RG 71 73 75,wm 12 76]
@[simp]def ri:=[wk 13 1]
@[simp]def rf:=[wm 77 13,wm 78 12,wn 79 78,wt 80 .lss 77 79]
@[simp]def re:=[ws 83 3 3,yf 84 0 8,wl 85 84,yf 86 1 8,ws 87 86 3,wm 88 13,yf 89 11 5,ws 90 89 9,Y5 91 K9 83 85 87 88 90,wm 14 91]
@[simp]def rb:=[wm 92 14,wu 93 92]
@[simp]def ra:=[wm 94 13,wm 95 11,wt 96 .leq 94 95]
@[simp]def qZ:VT:=
 ym 97 1<|ym 98 12<|ym 99 13<|yi 100 2 98 99<|Yf 101 0 100<|yl 102 101<|Yf 103 0 5<|yl 104 103<|Yf 105 0 8<|yl 106 105<|Yf 107 1 8<|Ys 108 107 3<|oc 109 (.build [zi,zi,zi,zi,zb,zi,zs,zb] [(0,1,(T 102)),(1,1,(T 104)),(2,1,(K 3)),(3,1,(T 106)),(4,3,(T 108))])<|V2 110 SO 97 109<|ym 1 110<|.done
@[simp]def qY:VT:=
 ym 111 1<|Yf 112 0 5<|yl 113 112<|ym 114 12<|ym 115 13<|yi 116 2 114 115<|Yf 117 0 116<|yl 118 117<|Yf 119 0 8<|yl 120 119<|Yf 121 1 8<|Ys 122 121 3<|oc 123 (.build [zi,zi,zi,zi,zb,zi,zs,zb] [(0,1,(T 113)),(1,1,(T 118)),(2,1,(K 5)),(3,1,(T 120)),(4,3,(T 122))])<|V2 124 SO 111 123<|ym 1 124<|.done
@[simp]def qX:=[wm 81 13,wc 82 .add 81 1,wm 13 82]
def OI:Z9:=
 (Q (QR rf (CX 80 4)) (Q (.block 5 (QR re (Q (QR rb (CT 93 (.exit 5) .skip)) (QR ra (CT 96 (.any qZ) (.any qY)))))) (R qX)))
@[simp]def qW:=[wm 20 7,wc 21 .add 20 1,wm 7 21]
def RQ:Z9:=
 (Q (QR f7q (CX 19 0)) (Q (.block 1 (QR f8q (Q (QR f9q (CT 31 (.exit 1) .skip)) (QR f0r (Q (QR f1r (.block 2 (.loop RP))) (QR rm (Q (QR rk (CT 70 (.exit 1) .skip)) (QR rj (QR ri (.block 4 (.loop OI))))))))))) (R qW)))
@[simp]def qV:=[wm 125 1,wm 6 125]
def d3g:Z9:=(QR f5q (Q (QR f6q (.block 0 (.loop RQ))) (QR qV .ret)))
theorem f5f:ZG prog GC=some (126,d3g,[.tmp 6]):=by kernel_rfl
@[simp]def f5r:=[wx 2 0,wx 3 1,oo 4 (.QH (.const .nilFunc))]
@[simp]def f6r:=[oo 5 (.VO Uw [] [(T 2),(T 3)]),wm 4 5]
def Rb:Z9:=(QR f5r (QR f6r .ret))
theorem dj:ZG prog N1=some (6,Rb,[.tmp 4]):=by kernel_rfl
@[simp]def f7r:=[wx 3 1]
@[simp]def f8r:=[yf 4 0 3,wl 5 4,yf 6 1 3,wl 7 6,wt 8 .neq 5 7]
@[simp]def f9r:VT:=
 ym 9 0<|vh 10 9<|Yf 11 4 10<|yl 12 11<|Ys 13 3 8<|.op (on (.Yy (true,[.i .i64, .i .i64, .i .i64, .i .i64, .b, .i .i64, .s, .b],false) (T 12) (T 13) (K 1)))<|.done
def OD:Z9:=(QR f7r (QR f8r (CT 8 (.any f9r) .skip)))
theorem f0s:ZG prog RC=some (14,OD,[]):=by kernel_rfl
@[simp]def f1s:=[wx 2 0,wz 4 8]
@[simp]def f2s:=[wm 6 1]
@[simp]def f3s:=[oo 5 (.alloc [zi,zi,zi,zi,zb,zi,zs,zb]),wo 5 7 8]
@[simp]def f4s:=[wl 8 2,ws 9 5 8,oo 10 (.lit 8 1 [(0,(T 9))]),oo 11 (.app 8 72 (T 8) (T 10)),wo 2 11 1]
def LR:Z9:=
 (R f3s)
def LQ:Z9:=
 (.block 1 (R f4s))
@[simp]def f5s:=[wl 12 2,wm 4 12]
def a7k:Z9:=(QR f1s (Q (QR f2s (.block 0 (.QB (T 6) [7] LR LQ))) (QR f5s .ret)))
theorem f6s:ZG prog Gt=some (13,a7k,[.tmp 4]):=by kernel_rfl
@[simp]def f7s:=[wl 4 1,oo 5 (.QB (true,[.i .i64, .i .i64, .i .i64, .i .i64, .b, .i .i64, .s, .b],false) (T 4))]
@[simp]def f8s:=[oo 6 (.nxt (T 5)),we 7 0 6]
@[simp]def f9s:=[oo 8 (.SK (T 5)),we 9 0 8,oo 3 (.alloc [zi,zi,zi,zi,zb,zi,zs,zb]),wo 3 9 8]
@[simp]def f0t:=[wm 10 0,ws 11 3 8,oo 12 (.Zc (T 10) [(T 11)]),wu 13 12]
def D6:Z9:=
 (QR f8s (Q (CX 7 0) (.block 1 (QR f9s (QR f0t (CT 13 .ret .skip))))))
def a8k:Z9:=(QR f7s (.block 0 (.loop D6)))
theorem f1t:ZG prog Qa=some (14,a8k,[]):=by kernel_rfl
@[simp]def f2t:=[wx 2 0,wx 3 1,wb 4 false]
@[simp]def f3t:=[yf 6 0 2,wl 7 6,yf 8 0 3,wl 9 8,wt 10 .neq 7 9]
@[simp]def f4t:=[yf 11 0 2,wl 12 11,yf 13 0 3,wl 14 13,wt 15 .lss 12 14,wm 4 15]
@[simp]def f5t:=[yf 16 1 2,wl 17 16,yf 18 1 3,wl 19 18,wt 20 .neq 17 19]
@[simp]def f6t:=[yf 21 1 2,wl 22 21,yf 23 1 3,wl 24 23,wt 25 .lss 22 24,wm 4 25]
@[simp]def f7t:=[yf 26 2 2,wl 27 26,yf 28 2 3,wl 29 28,wt 30 .neq 27 29]
@[simp]def f8t:=[yf 31 2 2,wl 32 31,yf 33 2 3,wl 34 33,wt 35 .lss 32 34,wm 4 35]
@[simp]def f9t:=[yf 36 3 2,wl 37 36,yf 38 3 3,wl 39 38,wt 40 .neq 37 39]
@[simp]def f0u:=[yf 41 3 2,wl 42 41,yf 43 3 3,wl 44 43,wt 45 .lss 42 44,wm 4 45]
@[simp]def f1u:=[yf 46 4 2,ws 47 46 3,yf 48 4 3,ws 49 48 3,Y2 50 P5 47 49,wm 5 50]
@[simp]def qU:=[wm 51 5,wc 52 .neq 51 0]
@[simp]def qT:=[wm 53 5,wc 54 .lss 53 0,wm 4 54]
@[simp]def qS:=[yf 55 7 2,wl 56 55,wu 57 56,wm 58 57,qf 59 58 7 3,Yl 60 58 59,wp 61 58 60,wm 4 61]
def a9k:Z9:=(QR f2t (Q (QR f3t (CR 10 f4t)) (Q (QR f5t (CR 20 f6t)) (Q (QR f7t (CR 30 f8t)) (Q (QR f9t (CR 40 f0u)) (QR f1u (Q (QR qU (CR 52 qT)) (QR qS .ret))))))))
theorem f4f:ZG prog Gs=some (62,a9k,[.tmp 4]):=by kernel_rfl
@[simp]def f2u:=[wl 6 1,wh 7 6,yf 8 0 7,yf 9 2 8,wl 10 9,wn 11 10,wk 12 0]
@[simp]def f3u:=[wt 13 .lss 12 11]
@[simp]def f4u:=[wi 14 5 10 12,ws 15 14 5,oo 5 (.alloc [zi,zb,zi,zs, .nil 1]),wo 5 15 5]
@[simp]def f5u:VT:=
 V (qs 23 20 22 3)<|V (V3 31 20 N0 27 28 30)<|V (og 32 20 true (.Zc (T 21) [(T 23),(T 31)]))<|V (yu 33 20 32)<|yp 34 20 33<|.done
@[simp]def f6u:VT:=
 V (V3 31 20 N0 27 28 30)<|V (qs 23 20 22 3)<|V (og 32 20 true (.Zc (T 21) [(T 23),(T 31)]))<|V (yu 33 20 32)<|yp 34 20 33<|.done
@[simp]def f7u:VT:=
 Yf 16 0 5<|yl 17 16<|yl 18 2<|vt 19 .eql 17 18<|ym 20 19<|V (Ym 21 20 0)<|V (qf 22 20 1 5)<|V (Yl 24 20 1)<|V (yh 25 20 24)<|V (qf 26 20 3 25)<|V (Yl 27 20 26)<|V (Yl 28 20 2)<|V (qf 29 20 1 5)<|V (qs 30 20 29 3)<|.alt (f5u) (f6u)
@[simp]def f8u:=[wc 35 .add 12 1,wm 12 35]
def EK:Z9:=
 (QR f3u (Q (CX 13 0) (Q (.block 1 (QR f4u (Q (.any f7u) (CT 34 .ret .skip)))) (R f8u))))
def a0l:Z9:=(QR f2u (.block 0 (.loop EK)))
theorem dm:ZG prog Uw=some (36,a0l,[]):=by kernel_rfl
structure Xb {α:Type} (c:α->α->Int):Prop where
 WR:∀a b,c a b<0↔0<c b a
 trans:∀a b d,c a b<=0->c b d<=0->c a d<=0
def Rj{α:Type}(c1 c2:α->α->Int)(a b:α):Int:=if c1 a b≠0 then c1 a b else c2 a b
theorem Xb.lex{α:Type}{c1 c2:α->α->Int}(h1:Xb c1)(h2:Xb c2):Xb (Rj c1 c2) where
 WR:=fun a b=>by
  have p1:=h1.WR a b;have p2:=h1.WR b a;have q1:=h2.WR a b;unfold Rj
  by_cases e:c1 a b=0
  ·have e2:c1 b a=0:=by omega
   rw[if_neg (by simpa using e),if_neg (by simpa using e2)];exact q1
  ·have e2:c1 b a≠0:=by omega
   rw[if_pos e,if_pos e2];exact p1
 trans:=fun a b d Iv hbd=>by
  have p1:=h1.WR a b;have p2:=h1.WR b a;have p3:=h1.WR b d;have p4:=h1.WR d b;have p5:=h1.WR a d;have p6:=h1.WR d a;have t1:=h1.trans a b d;have t2:=h1.trans d a b;have t3:=h1.trans b d a;have q:=h2.trans a b d;unfold Rj at Iv hbd⊢
  split at Iv<;>split at hbd<;>split<;>omega
theorem Xb.sub{α:Type}(f:α->Int):Xb fun a b=>f a-f b:=⟨fun a b=>by omega,fun a b d h1 h2=>by omega⟩
theorem Xb.of{α β:Type}(f:α->β){c:β->β->Int}(h:Xb c):Xb fun a b=>c (f a) (f b):=⟨fun a b=>h.WR _ _,fun a b d=>h.trans _ _ _⟩
theorem c9j:∀(x y:List UInt8),Op.bytesLess x y=true\/x=y\/Op.bytesLess y x=true
 | [],[]=> .inr (.inl rfl)
 | [],_::_=> .inl rfl
 | _::_,[]=> .inr (.inr rfl)
 |a::x,b::y=>by
  simp only[Op.bytesLess,b6w,decide_eq_true_eq,a3C,beq_iff_eq,a4U]
  have Iv:a<b\/a=b\/b<a:=by
   rw[UInt8.lt_iff_toNat_lt,UInt8.lt_iff_toNat_lt, <-UInt8.toNat_inj];omega
  rcases Iv with h|rfl|h
  ·exact .inl (.inl h)
  ·rcases c9j x y with h|rfl|h
   ·exact .inl (.inr ⟨rfl,h⟩)
   ·exact .inr (.inl ⟨rfl,rfl⟩)
   ·exact .inr (.inr (.inr ⟨rfl,h⟩))
  ·exact .inr (.inr (.inl h))
theorem c0k(a b:ByteArray):Uu a b=true\/a=b\/Uu b a=true:=by
 unfold Uu
 rcases c9j a.toList b.toList with h|h|h
 ·exact .inl h
 ·rw[b7t,b7t]at h;exact .inr (.inl (by cases a;cases b;congr;exact Array.ext' h))
 ·exact .inr (.inr h)
theorem c1k{a b c:ByteArray}(h1:Uu a b=true)(h2:Uu b c=true):Uu a c=true:=d0b h1 h2
theorem c2k{a b:ByteArray}(h1:Uu a b=true):Uu b a=false:=by
 cases h:Uu b a with
 |false=>rfl
 |true=>have:=c1k h1 h;rw[b4t]at this;cases this
theorem c3k:Xb Wz where
 WR:=fun a b=>by
  rw[d1b];unfold Wz
  rcases c0k a b with h|rfl|h
  ·have ZV:b≠a:=by rintro rfl;rw[b4t]at h;cases h
   simp[h,c2k h,ZV]
  ·simp[b4t]
  ·simp[h,c2k h]
 trans:=fun a b d h1 h2=>by
  have le:∀x y:ByteArray,Wz x y<=0↔Uu x y=true\/x=y:=by
   intro x y;unfold Wz
   by_cases h:Uu x y=true
   ·simp[h]
   ·by_cases h':x=y
    ·subst h';simp[b4t]
    ·simp[h,h']
  rw[le]at*
  rcases h1 with h1|rfl
  ·rcases h2 with h2|rfl
   ·exact .inl (c1k h1 h2)
   ·exact .inl h1
  ·exact h2
theorem c4k:Xb Rq where
 WR:=fun a b=>by unfold Rq;split<;>split<;>(try split)<;>omega
 trans:=fun a b d h1 h2=>by
  have le:∀x y:Int,Rq x y<=0↔x<=y:=by
   intro x y;unfold Rq
   by_cases h:x<y
   ·rw[if_pos h];omega
   ·by_cases h':y<x
    ·rw[if_neg h,if_pos h'];omega
    ·rw[if_neg h,if_neg h'];omega
  rw[le]at*;omega
theorem c5k:Xb Vl.cmp where
 WR:=fun a b=>by
  have h1:=c3k.WR a.s b.s;have h2:=c4k.WR a.n b.n;unfold Vl.cmp
  cases a.text<;>cases b.text<;>simp[h1,h2]
 trans:=fun a b d=>by
  have h1:=c3k.trans a.s b.s d.s;have h2:=c4k.trans a.n b.n d.n;unfold Vl.cmp
  cases a.text<;>cases b.text<;>cases d.text<;>simp<;>assumption
theorem c6k{a b:Vl}(ha:a.right=true)(hb:b.right=true)(h:a.cmp b=0):a=b:=by
 rw[Vl.eq_iff];unfold Vl.right at ha hb;unfold Vl.cmp at h
 cases hta:a.text<;>cases htb:b.text<;>simp only[hta,htb,if_true,if_false,Bool.false_eq_true]at h ha hb
 ·unfold Rq at h;refine⟨rfl,by split at h<;>(try split at h)<;>omega,?_⟩
  simp_all
 ·omega
 ·omega
 ·unfold Wz at h
  have hs:a.s=b.s:=by
   split at h
   ·omega
   ·split at h
    ·assumption
    ·omega
  simp_all
def Eg.Nr(a b:Eg):Int:=
 if IntKind.i64.wrap (a.Z4-b.Z4)≠0 then IntKind.i64.wrap (a.Z4-b.Z4)
 else if IntKind.i64.wrap (a.to-b.to)≠0 then IntKind.i64.wrap (a.to-b.to)
 else if IntKind.i64.wrap (a.kind-b.kind)≠0 then IntKind.i64.wrap (a.kind-b.kind)
 else if IntKind.i64.wrap (a.table-b.table)≠0 then IntKind.i64.wrap (a.table-b.table)
 else a.key.cmp b.key
def Eg.cmp(a b:Eg):Int:=if a.Nr b≠0\/a.Zw=b.Zw then a.Nr b else if b.Zw=true then-1 else 1
def Eg.Nq:Eg->Eg->Int:=Rj (fun a b=>a.Z4-b.Z4) (Rj (fun a b=>a.to-b.to) (Rj (fun a b=>a.kind-b.kind) (Rj (fun a b=>a.table-b.table)
 (Rj (fun a b=>a.key.cmp b.key) fun a b=>(if a.Zw=true then 1 else 0)-(if b.Zw=true then 1 else 0)))))
theorem Cb:Xb Eg.Nq:=(Xb.sub Eg.Z4).lex ((Xb.sub Eg.to).lex ((Xb.sub Eg.kind).lex ((Xb.sub Eg.table).lex ((c5k.of Eg.key).lex (Xb.sub fun e:Eg=>if e.Zw=true then 1 else 0)))))
def Eg.lss(a b:Eg):Bool:=
 if a.Z4≠b.Z4 then decide (a.Z4<b.Z4)else if a.to≠b.to then decide (a.to<b.to)else if a.kind≠b.kind then decide (a.kind<b.kind)
 else if a.table≠b.table then decide (a.table<b.table)else if a.key.cmp b.key≠0 then decide (a.key.cmp b.key<0)else !a.Zw&&b.Zw
theorem c8k(a b:Eg):a.lss b=true↔a.Nq b<0:=by
 unfold Eg.lss Eg.Nq Rj
 by_cases h1:a.Z4=b.Z4
 ·by_cases h2:a.to=b.to
  ·by_cases h3:a.kind=b.kind
   ·by_cases h4:a.table=b.table
    ·by_cases h5:a.key.cmp b.key=0
     ·simp only[h1,h2,h3,h4,h5]
      cases a.Zw<;>cases b.Zw<;>simp
     ·simp[h1,h2,h3,h4,h5]
    ·have:a.table-b.table≠0:=by omega
     simp only[h1,h2,h3,ne_eq,not_true,if_false,h4,not_false_eq_true,if_true,this,d9b,decide_eq_true_eq];omega
   ·have:a.kind-b.kind≠0:=by omega
    simp only[h1,h2,ne_eq,not_true,if_false,h3,not_false_eq_true,if_true,this,d9b,decide_eq_true_eq];omega
  ·have:a.to-b.to≠0:=by omega
   simp only[h1,ne_eq,not_true,if_false,h2,not_false_eq_true,if_true,this,d9b,decide_eq_true_eq];omega
 ·have:a.Z4-b.Z4≠0:=by omega
  simp only[ne_eq,h1,not_false_eq_true,if_true,this,decide_eq_true_eq];omega
theorem c9k{a b c:Eg}(h1:a.lss b=true)(h2:b.lss c=true):a.lss c=true:=by
 rw[c8k]at*;have t1:=Cb.trans a b c (by omega) (by omega);have t2:=Cb.trans b c a (by omega);have:=Cb.WR a c;have:=Cb.WR c a;have:=Cb.WR a b;have:=Cb.WR b a;omega
theorem c0l{a b:Eg}(h:a.lss b=true):b.lss a=false:=by
 rw[<-c8v];intro h2;rw[c8k]at*;have:=Cb.WR a b;omega
theorem c1l(a:Eg):a.lss a=false:=by
 rw[<-c8v];intro h;have:=c0l h;rw[h]at this;cases this
def Eg.Rt(e:Eg):Prop:=e.key.right=true
theorem c2l{a b:Eg}(ha:a.Rt)(hb:b.Rt)(h1:a.lss b=false)(h2:b.lss a=false):a=b:=by
 rw[<-c8v,c8k]at h1 h2;have h3:=Cb.WR a b;have h4:=Cb.WR b a
 have h0:a.Nq b=0:=by omega
 unfold Eg.Nq Rj at h0;rw[Eg.eq_iff]
 by_cases e1:a.Z4-b.Z4=0
 ·by_cases e2:a.to-b.to=0
  ·by_cases e3:a.kind-b.kind=0
   ·by_cases e4:a.table-b.table=0
    ·by_cases e5:a.key.cmp b.key=0
     ·simp only[e1,e2,e3,e4,e5,ne_eq,not_true,if_false]at h0;refine⟨by omega,by omega,by omega,by omega,c6k ha hb e5,?_⟩;revert h0
      cases a.Zw<;>cases b.Zw<;>simp
     ·simp only[e1,e2,e3,e4,ne_eq,not_true,if_false,e5,not_false_eq_true,if_true]at h0
    ·simp only[e1,e2,e3,ne_eq,not_true,if_false,e4,not_false_eq_true,if_true]at h0
   ·simp only[e1,e2,ne_eq,not_true,if_false,e3,not_false_eq_true,if_true]at h0
  ·simp only[e1,ne_eq,not_true,if_false,e2,not_false_eq_true,if_true]at h0
 ·simp only[ne_eq,e1,not_false_eq_true,if_true]at h0
def Ri(l:List Eg):Prop:=l.Pairwise fun a b=>a.lss b=true
theorem Ri.nodup{l:List Eg}(h:Ri l):l.Nodup:=h.imp fun {a b} Iv e=>by subst e;rw[c1l]at Iv;cases Iv
theorem c3l{l r:List Eg}(hl:Ri l)(hr:Ri r)(h:∀e,e∈l↔e∈r):l=r:=
 d4U (le:=fun a b:Eg=>a.lss b=true) (fun a b _ _ h1 h2=>by have:=c0l h1;rw[h2]at this;cases this) hl hr ((c6P hl.nodup hr.nodup).2 h)
def UX(e:Eg):List Eg->List Eg
 | []=>[e]
 |x::r=>if x.lss e=true then x::UX e r else if x=e then x::r else e::x::r
theorem c4l{e m:Eg}:∀{l:List Eg},m∈UX e l↔m=e\/m∈l
 | []=>by simp[UX]
 |x::r=>by
  unfold UX;split
  ·rw[a5E,c4l,a5E];grind
  ·split
   ·rename_i h;subst h;rw[a5E];grind
   ·rw[a5E]
theorem c5l{e:Eg}(he:e.Rt):∀{l:List Eg},(∀x,x∈l->x.Rt)->Ri l->Ri (UX e l)
 | [],_,_=>List.pairwise_singleton _ _
 |x::r,hD,h=>by
  obtain⟨h1,h2⟩:=b7K.1 h;unfold UX;split
  ·rename_i hx;refine b7K.2 ⟨fun y hy=>?_,c5l he (fun y hy=>hD y (a9C _ hy)) h2⟩
   rcases c4l.1 hy with rfl|hy
   ·exact hx
   ·exact h1 y hy
  ·rename_i hx;split
   ·exact h
   ·rename_i ZV
    have hex:e.lss x=true:=by
     cases hc:e.lss x with
     |true=>rfl
     |false=>exact absurd (c2l (hD x a4E) he (by simpa using hx) hc) ZV
    refine b7K.2 ⟨fun y hy=>?_,h⟩
    rcases a5E.1 hy with rfl|hy
    ·exact hex
    ·exact c9k hex (h1 y hy)
def YL(l:List Eg)(e:Eg):List Eg:=if e.Z4=e.to then l else UX e l
theorem c6l{m:Eg}:∀{es l:List Eg},m∈es.foldl YL l↔m∈l\/(m∈es/\m.Z4≠m.to)
 | [],l=>by simp
 |e::es,l=>by
  rw[b9j,c6l,a5E];unfold YL;split
  ·rename_i h;grind
  ·rename_i h;rw[c4l];grind
theorem c7l:∀{es l:List Eg},(∀x,x∈l->x.Rt)->(∀x,x∈es->x.Rt)->Ri l->Ri (es.foldl YL l)
 | [],_,_,_,h=>h
 |e::es,l,hl,he,h=>by
  rw[b9j];have h0:=he e a4E;refine c7l ?_ (fun x hx=>he x (a9C _ hx)) ?_
  ·intro x hx;unfold YL at hx;split at hx
   ·exact hl x hx
   ·rcases c4l.1 hx with rfl|hx
    ·exact h0
    ·exact hl x hx
  ·unfold YL;split
   ·exact h
   ·exact c5l h0 hl h
theorem kF:∀{es l:List Eg},(es.foldl YL l).length<=l.length+es.length
 | [],l=>by simp
 |e::es,l=>by
  rw[b9j];have h1:=kF (es:=es) (l:=YL l e)
  have h2:(YL l e).length<=l.length+1:=by
   unfold YL;split
   ·omega
   ·clear h1
    induction l with
    |nil=>simp[UX]
    |cons x r ih=>
     unfold UX;split
     ·simpa using ih
     ·split<;>simp
  simp only[a4S];omega
theorem c9l{e:Eg}:∀{l:List Eg} {k:Nat},k<=l.length->(∀j,j<k->∀x,l[j]? =some x->x.lss e=true)->(∀x,l[k]? =some x->x.lss e=false)->
 UX e l=if l[k]? =some e then l else l.take k++e::l.drop k
 | [],k,hk,_,_=>by
  have:k=0:=by simpa using hk
  subst this;simp[UX]
 |x::r,0,_,_,h2=>by
  have:=h2 x rfl;unfold UX;rw[if_neg (by rw[this];simp)];simp
 |x::r,k+1,hk,h1,h2=>by
  have:=h1 0 (by omega) x rfl;unfold UX;rw[if_pos this,c9l (k:=k) (by simpa using hk) (fun j hj y hy=>h1 (j+1) (by omega) y (by simpa using hy)) (fun y hy=>h2 y (by simpa using hy))];simp only[a5J,List.take_succ_cons,List.drop_succ_cons]
  split<;>rfl
structure Eg.D (e:Eg):Prop where
 rt:e.Rt
 Z4:0<=e.Z4/\e.Z4<2^63
 to:0<=e.to/\e.to<2^63
 kind:0<=e.kind/\e.kind<2^63
 table:0<=e.table/\e.table<2^63
theorem f4Q{a b:Eg}(ha:a.D)(hb:b.D):a.cmp b=a.Nq b:=by
 obtain⟨_,a1,a2,a3,a4⟩:=ha;obtain⟨_,b1,b2,b3,b4⟩:=hb;have w1:=Zk (n:=a.Z4-b.Z4) (by omega);have w2:=Zk (n:=a.to-b.to) (by omega);have w3:=Zk (n:=a.kind-b.kind) (by omega);have w4:=Zk (n:=a.table-b.table) (by omega);unfold Eg.cmp Eg.Nr Eg.Nq Rj;rw[w1,w2,w3,w4]
 by_cases e1:a.Z4-b.Z4=0
 ·by_cases e2:a.to-b.to=0
  ·by_cases e3:a.kind-b.kind=0
   ·by_cases e4:a.table-b.table=0
    ·by_cases e5:a.key.cmp b.key=0
     ·simp only[e1,e2,e3,e4,e5,ne_eq,not_true,if_false,false_or]
      cases a.Zw<;>cases b.Zw<;>simp
     ·simp only[e1,e2,e3,e4,e5,ne_eq,not_true,if_false,not_false_eq_true,true_or,if_true]
    ·simp only[e1,e2,e3,e4,ne_eq,not_true,if_false,not_false_eq_true,true_or,if_true]
   ·simp only[e1,e2,e3,ne_eq,not_true,if_false,not_false_eq_true,true_or,if_true]
  ·simp only[e1,e2,ne_eq,not_true,if_false,not_false_eq_true,true_or,if_true]
 ·simp only[e1,ne_eq,not_false_eq_true,true_or,if_true]
section
variable{h:Hs}
theorem b9y{α:Type}{p:α->Bool}{l:List α}(hu:∀(i j:Nat) (a b:α),l[i]? =some a->l[j]? =some b->p a=true->p b=true->i=j){e:α}(he:e∈l)(hp:p e=true):Wr p l=some e:=by
 cases hl:Wr p l with
 |none=>rw[d7i]at hl;rw[hl e he]at hp;cases hp
 |some a=>
  obtain⟨h1,h2⟩:=MS hl;obtain⟨i,hi⟩:=a9B h1;obtain⟨j,hj⟩:=a9B he;have:=hu i j a e hi hj h2 hp;subst this;rw[hi]at hj;exact hj
theorem b0z(hw:Zo h){txn:Int}:∀(i j:Nat) (a b:Ev),h.events[i]? =some a->h.events[j]? =some b->a.UP txn=true->b.UP txn=true->i=j:=by
 have key:∀(i j:Nat) (a b:Ev),i<j->h.events[i]? =some a->h.events[j]? =some b->a.UP txn=true->b.UP txn=true->False:=by
  intro i j a b Xu hi hj ha hb;simp only[Ev.UP,a3C,decide_eq_true_eq]at ha hb;obtain⟨_,_,_,_,h5,_⟩:=(MT hw hj).1.1;refine(h5 hb.1).1 ⟨a,a6y (i:=i) ?_,ha.2.trans hb.2.symm⟩;rw[b8t Xu];exact hi
 intro i j a b hi hj ha hb
 rcases c0H i j with g|g|g
 ·exact(key i j a b g hi hj ha hb).elim
 ·exact g
 ·exact(key j i b a g hj hi hb ha).elim
theorem b1z(hw:Zo h){table:Int}{k:Vl}{v:Vs}:(WK h.events table k v).isSome=true↔v=⟨0,0⟩\/(1<=v.n/\v.n<=Yk h.events v.txn table k):=by
 unfold WK
 by_cases hv:v=⟨0,0⟩
 ·simp[hv]
 ·rw[if_neg hv,Option.isSome_map,c6j hw];simp[hv]
theorem b2z{es:List Ev}(i:Nat)(txn table:Int)(k:Vl):Yk (es.take i) txn table k<=Yk es txn table k:=by
 unfold Yk;exact((d3l i es).filter _).length_le
end
theorem a9A:∀{es:List Ev} {t:Int},Xd es t=5->∃e,e∈es/\e.txn=t/\e.kind=5
 | [],_,h=>by simp[Xd]at h
 |x::r,t,h=>by
  rw[Xd]at h
  by_cases hx:x.ends t
  ·rw[if_pos hx]at h;exact⟨x,a4E,hx.1,h⟩
  ·rw[if_neg hx]at h;obtain⟨e,h1,h2⟩:=a9A h;exact⟨e,a9C _ h1,h2⟩
section
variable{h:Hs}
theorem a0B(hw:Zo h){t:Int}(ht:t∈Ye h.events):Xd h.events t=5:=by
 unfold Ye at ht;obtain⟨e,he,rfl⟩:=a0E.1 ht;rw[a2E,decide_eq_true_eq]at he;obtain⟨i,hi⟩:=a9B he.1;rw[b7j (i:=i) (e:=e) ?_ hi ⟨rfl, .inl he.2⟩,he.2];intro j hj x hx LK;have:=(MT hw hi).1.1.2.2.2.1 x (a6y (i:=j) (by rw[b8t hj];exact hx)) LK.1
 rcases LK.2 with g|g
 ·exact this.1 g
 ·exact this.2 g
theorem mT{t:Int}(h5:Xd h.events t=5):t∈Ye h.events:=by
 obtain⟨e,h1,h2,h3⟩:=a9A h5;unfold Ye;exact a0E.2 ⟨e,a2E.2 ⟨h1,by simpa using h3⟩,h2⟩
theorem a2B(hw:Zo h):(Ye h.events).Nodup:=by
 unfold Ye d0j;rw[c9D,List.pairwise_filter,b5K];intro i j hi hj Xu h1 h2 he;simp only[decide_eq_true_eq]at h1 h2;have hgi:h.events[i]? =some h.events[i]:=a4G hi;have hgj:h.events[j]? =some h.events[j]:=a4G hj
 exact((MT hw hgj).1.1.2.2.2.1 h.events[i] (a6y (i:=i) (by rw[b8t Xu];exact hgi)) he).1 h1
def CM(h:Hs)(table:Int)(k:Vl):List Int:=match Wr (Ins.Sj table k) h.order with
 |some o=>o.ZU
 |none=>[]
variable{table:Int}{k:Vl}
theorem a3B(hw:Zo h):Zu h.events h.order table k=⟨0,0⟩::(CM h table k).map fun t=>⟨t,(Yk h.events t table k:Int)⟩:=by
 unfold Zu CM
 cases ho:Wr (Ins.Sj table k) h.order with
 |none=>rfl
 |some o=>
  obtain⟨h1,h2⟩:=MS ho;rw[mS]at h2;obtain⟨h2,h3⟩:=h2;simp only[SG,c4j hw,h2,h3]
theorem a4B(hw:Zo h){t:Int}:t∈CM h table k↔t∈Ye h.events/\1<=Yk h.events t table k:=by
 constructor
 ·intro ht;unfold CM at ht
  cases ho:Wr (Ins.Sj table k) h.order with
  |none=>rw[ho]at ht;cases ht
  |some o=>
   rw[ho]at ht;obtain⟨h1,h2⟩:=MS ho;rw[mS]at h2;obtain⟨h2,h3⟩:=h2;obtain⟨g1,g2⟩:=c2W hw h1 ht;rw[h2,h3]at g2;exact⟨mT g1,by omega⟩
 ·rintro⟨h1,h2⟩;obtain⟨e,he,hk⟩:=c0W (es:=h.events) (txn:=t) (table:=table) (k:=k) (by omega);obtain⟨k3,rfl,rfl,rfl⟩:=mR hk;obtain⟨i,hi⟩:=a9B he;obtain⟨o,ho,hof,hot⟩:=(MT hw hi).2 k3 (a0B hw h1);unfold CM;rw[b9y (c6W hw) ho (mS.2 hof)];exact hot
theorem a5B(hw:Zo h){t:Int}(ht:t∈CM h table k):1<=t:=by
 obtain⟨_,h2⟩:=(a4B hw).1 ht;obtain⟨e,he,hk⟩:=c0W (es:=h.events) (txn:=t) (table:=table) (k:=k) (by omega);obtain⟨_,rfl,_⟩:=mR hk;exact c4W hw he
end
def VF(l:List Rf)(k:Vl):Vs:=((Wr (fun r:Rf=>decide (r.key=k)) l).map Rf.Z4).getD ⟨0,0⟩
def Sf(o:Ins):List Eg:=(o.ZU.zip o.ZU.tail).map fun p=>⟨p.1,p.2,1,o.table,o.key,false⟩
section
variable(h:Hs)(e:Ev)
def IL(p:Int):List Eg:=if 0<p then[⟨e.Z4.txn,e.txn,2,e.table,e.key,e.cur⟩]else[]
def MN(p:Int)(c:List Vs):List Eg:=if 0<=p/\p+1<c.length/\e.Z4.txn≠e.txn then[⟨e.txn,((c[(p+1).toNat]?).getD ⟨0,0⟩).txn,4,e.table,e.key,e.cur⟩]else[]
def LB:List Eg:=IL e (Yo h.events h.order e.table e.key e.Z4)++MN e (Yo h.events h.order e.table e.key e.Z4) (Zu h.events h.order e.table e.key)
def Qn(k:Vl)(p:Int)(i:Nat):List Eg:=if Vh h.events h.order e.table k i e.pred=true then
 [if(i:Int)<=p then⟨(((Zu h.events h.order e.table k)[i]?).getD ⟨0,0⟩).txn,e.txn,3,e.table,k,false⟩else⟨e.txn,(((Zu h.events h.order e.table k)[i]?).getD ⟨0,0⟩).txn,5,e.table,k,false⟩]else[]
def QE(k:Vl):List Eg:=if Yo h.events h.order e.table k (VF e.refs k)<0\/(VF e.refs k).txn=e.txn then[]else
 (a7I (Zu h.events h.order e.table k).length).flatMap (Qn h e k (Yo h.events h.order e.table k (VF e.refs k)))
def QD(o:Ins):List Eg:=if o.table=e.table then QE h e o.key else[]
def HW:List Eg:=h.order.flatMap (QD h e)
def SC:List Eg:=if Xd h.events e.txn=5 then(if e.kind=2 then LB h e else if e.kind=4 then HW h e else[])else[]
def ML:List Eg:=h.order.flatMap Sf++h.events.flatMap (SC h)
noncomputable def XS:List Eg:=if Zo h then(ML h).foldl YL []else[]
end
theorem a6N{h:Hs}(hw:Zo h){m:Eg}:m∈XS h↔m∈ML h/\m.Z4≠m.to:=by
 unfold XS;rw[if_pos hw,c6l];simp
theorem Dw{h:Hs}(hw:¬Zo h):XS h=[]:=by unfold XS;rw[if_neg hw]
theorem a8N{o:Ins}{m:Eg}:m∈Sf o↔∃i a b,o.ZU[i]? =some a/\o.ZU[i+1]? =some b/\m=⟨a,b,1,o.table,o.key,false⟩:=by
 unfold Sf;rw[a0E];constructor
 ·rintro⟨p,hp,rfl⟩;obtain⟨i,hi⟩:=a9B hp;rw[c3Q]at hi;rw[c1E]at hi;exact⟨i,p.1,p.2,hi.1,hi.2,rfl⟩
 ·rintro⟨i,a,b,h1,h2,rfl⟩;refine⟨(a,b),a6y (i:=i) ?_,rfl⟩;rw[c3Q,c1E];exact⟨h1,h2⟩
/-! what is known of the ends and of the keys-/
section
variable{h:Hs}
def Hs.Rg(h:Hs):Prop:=∀e,e∈h.events-> -(2^63)<=e.txn/\e.txn<2^63
theorem a9N{table:Int}{k:Vl}(hk:Se h table k):k.right=true:=by
 obtain⟨_,t,_,h1,_⟩:=hk;exact h1
theorem a0O{table:Int}{k:Vl}(hw:Zo h)(hk:Se h table k):0<=table/\table<3:=by
 obtain⟨h0,t,h1,_⟩:=hk;have h2:=(a5y.1 h1).1;have h3:=hw.1.1.2;omega
theorem a1O(hw:Zo h){table:Int}{k:Vl}{i:Nat}{v:Vs}(hv:(Zu h.events h.order table k)[i]? =some v)(hi:0<i):
 v.txn∈Ye h.events/\1<=v.txn/\∃e,e∈h.events/\e.txn=v.txn/\e.kind=3/\e.table=table/\e.key=k:=by
 rw[a3B hw]at hv
 cases i with
 |zero=>omega
 |succ i=>
  rw[a5J,a1C,Option.map_eq_some_iff]at hv;obtain⟨t,ht,rfl⟩:=hv;have hm:=a6y ht;have h1:=(a4B hw).1 hm;refine⟨h1.1,a5B hw hm,?_⟩;obtain⟨e,he,hk⟩:=c0W (es:=h.events) (txn:=t) (table:=table) (k:=k) (by omega);obtain⟨k3,g1,g2,g3⟩:=mR hk;exact⟨e,he,g1,k3,g2,g3⟩
end
end Go.Rt
end

section
namespace Go.Vm
@[simp]theorem g1b{ks:List Nat}{Z:GZ}{vs:List Value}{cs:List AV}:Ob.YO ks (.gh Z vs cs)=cs.all (AV.WM ks):=rfl
theorem a3Q{s:St}{id g i m:Nat}{cs:List AV}(ho:look s.hp id=some (.box cs))(hi:cs[i]? =some (.mpr m))(hg:look s.hp g=none)(hgl:g<1000):
 HX s fun s'=>∃x:Value,s'=(s.add id (.box (cs.set i (.iv (.v x))))).add g (.gh ZT [x] [.mpr m]):=by
 rintro E n a w ⟨ψ,h⟩;obtain⟨b,c,e,q1,q2,q3,q4⟩:=h.YC id _ ho;have hm:=q4 i _ hi
 obtain⟨mb,hx⟩:∃mb,c.getD i undef= .map (some mb):=by
  generalize c.getD i undef=v at hm;cases hm;exact⟨_,rfl⟩
 have h1:=h.MV (o':= .box (cs.set i (.iv (.v (c.getD i undef))))) (k:=(0,c.size)) ho (Ob.le_none rfl) rfl (by simp[Ob.multi]) q1 (fun _ _=>rfl) rfl ⟨rfl,rfl,rfl,a8F _⟩ fun tr _=>⟨b,c,e,q1,q2,by simpa using q3,fun k y hy=>by
  rw[List.getElem?_set]at hy;split at hy
  ·rename_i e1;subst e1;split at hy
   ·cases hy;rw[hx];exact UB rfl
   ·cases hy
  ·exact tr _ _ (q4 k y hy)⟩
 have hgi:id≠g:=fun e=>by subst e;rw[ho]at hg;cases hg
 have YQ:look (s.add id (.box (cs.set i (.iv (.v (c.getD i undef)))))).hp g=none:=by rw[WL,if_neg hgi];exact hg
 have h2:=h1.new (o:= .gh ZT [c.getD i undef] [.mpr m]) (p:=none) (w':=w) hgl YQ (Ext.refl w) (fun b k e=>by cases e) ⟨by simp[XE],fun _ _ _ _ _ _ _=>trivial,rfl,fun j y hy=>by
  cases j with
  |succ j=>simp at hy
  |zero=>
   simp only[a0F,a3y]at hy;subst hy;simp only[List.getD_cons_zero];generalize hv:c.getD i undef=v at hm
   cases hm with
   |mpr _ b' k' o' XI XH=>
    have hgm:g≠m:=fun e=>by subst e;rw[hg]at XI;cases XI
    have:∃o2,look (s.add id (.box (cs.set i (.iv (.v (.map (some b'))))))).hp m=some o2:=by
     rw[WL];split
     ·exact⟨_,rfl⟩
     ·exact⟨_,XI⟩
    obtain⟨o2,CQ⟩:=this
    refine .mpr m b' k' o2 (by rw[WL,if_neg hgm];exact CQ) (by simp only[XE];rw[if_neg (Ne.symm hgm)];exact XH)⟩
 exact⟨_,⟨_,rfl⟩,_,h2⟩
theorem a4Q{s:St}{t g i:Nat}{x:Value}{Z:GZ}{vs:List Value}{cs:List AV}{y:AV}(ht:s.get t= .iv (.v x))(hg:look s.hp g=some (.gh Z vs cs))(hv:vs[i]? =some x)(hc:cs[i]? =some y):Le s (s.set t y):=by
 rintro E n a w ⟨ψ,hs⟩;refine⟨ψ,{hs with frame:=fun u=>?_}⟩;rw[St.WW];split
 ·rename_i e;subst e;have h1:=hs.frame t;rw[ht]at h1;have h2:=Vp h1;have h3:=(hs.YC g _ hg).2.2.2 i _ hc;rw[a7S,hv]at h3;rw[h2];exact h3
 ·exact hs.frame u
theorem HX.to{s:St}{F G:St->Prop}(h:HX s F)(k:∀s',F s'->HX s' G):HX s G:=fun E n a w hs=>by
 obtain⟨s',h1,h2⟩:=h E n a w hs;exact k s' h1 E n a w h2
end Go.Vm
end

section
namespace Go.Rt
open Go.Vm
abbrev HJ:Sk:=(true,[.i .i64, .i .i64, .i .i64, .i .i64, .b, .i .i64, .s, .b],false)
open Classical in
noncomputable def gE(S:Eg->Prop):List Value->Option (List IV)
 | [.int .i64 f, .int .i64 t, .int .i64 k, .int .i64 tb, .bool x, .int .i64 n, .string s, .bool c]=>if S ⟨f,t,k,tb,⟨x,n,s⟩,c⟩then some [ci 1]else none
 | _=>none
theorem d3O:gE (fun _=>False)=fun _=>none:=by
 funext q;unfold gE;split
 ·rw[if_neg];exact fun h=>h
 ·rfl
theorem d4O(S:Eg->Prop)(e:Eg):ZH (gE S) [.int .i64 e.Z4, .int .i64 e.to, .int .i64 e.kind, .int .i64 e.table, .bool e.key.text, .int .i64 e.key.n, .string e.key.s, .bool e.Zw] (some [ci 1])=gE (fun x=>S x\/x=e):=by
 funext q
 simp only[ZH];split
 ·rename_i h;subst h;simp only[gE];rw[if_pos];exact .inr rfl
 ·rename_i ZV;unfold gE;split
  ·rename_i f t k tb x n s c
   have hn:¬((⟨f,t,k,tb,⟨x,n,s⟩,c⟩:Eg)=e):=by rintro rfl;exact ZV rfl
   by_cases hp:S ⟨f,t,k,tb,⟨x,n,s⟩,c⟩
   ·rw[if_pos hp,if_pos (.inl hp)]
   ·rw[if_neg hp,if_neg fun g=>g.elim hp hn]
  ·rfl
def X8(h:Hs)(x:Value):IV:= .pt [.Z6 1 (Za h.tables), .Z6 22 (ZB h.events), .Z6 5 (Zi h.order),Yv h.events h.order, .v x]
noncomputable abbrev Ih(S:Eg->Prop)(x:Value):Hp:=[(1001, .map HJ (gE S)),(1002, .gh ZT [x] [.mpr 1001])]
def Q5(S:Eg->Prop)(e:Eg)(m:Eg):Prop:=S m\/(m=e/\e.Z4≠e.to)
theorem d5O(h:Hs)(S:Eg->Prop)(x:Value)(e:Eg):ZX prog false RC [.iv (X8 h x),e.av] (Ih S x) (.Zp []) (Ih (Q5 S e) x):=by
 refine oP f0s (by simp) (by decide) (by simp) (by simp[Ob.Zf]) ?_
 by_cases zt:e.Z4=e.to
 ·have hS:Q5 S e=S:=by funext m;exact propext ⟨fun g=>g.elim id fun g=>absurd zt g.2, .inl⟩
  rw[hS];simp-dsimp[OD,Eg.av,Eg.cells,zt]
 ·have hS:Q5 S e=fun m=>S m\/m=e:=by funext m;exact propext ⟨fun g=>g.elim .inl fun g=> .inr g.1,fun g=>g.elim .inl fun g=> .inr ⟨g,zt⟩⟩
  have X9:=(d4O S e).symm;rw[hS];simp-dsimp[OD,Eg.av,Eg.cells,zt,X8,X9,St.oz,c6Q,nO]
def XL(S:Eg->Prop)(f:Nat->List Eg)(i:Nat)(m:Eg):Prop:=S m\/(m.Z4≠m.to/\∃j,j<i/\m∈f j)
def UC{κ:Type}(S:Eg->Prop)(F:κ->List Eg)(ks:List κ)(m:Eg):Prop:=S m\/(m.Z4≠m.to/\∃k,k∈ks/\m∈F k)
theorem oh(S:Eg->Prop)(f:Nat->List Eg):XL S f 0=S:=by
 funext m;exact propext ⟨fun g=>g.elim id fun⟨_,j,hj,_⟩=>absurd hj (d6P _), .inl⟩
theorem d7O{S:Eg->Prop}{f:Nat->List Eg}{i:Nat}(h:f i=[]):XL S f (i+1)=XL S f i:=by
 funext m
 refine propext ⟨fun g=>g.imp id fun⟨h1,j,hj,hm⟩=>⟨h1,j,?_,hm⟩,fun g=>g.imp id fun⟨h1,j,hj,hm⟩=>⟨h1,j,by omega,hm⟩⟩
 rcases b5j j i with g|g
 ·exact g
 ·have:j=i:=by omega
  subst this;rw[h]at hm;cases hm
theorem d8O{S:Eg->Prop}{f:Nat->List Eg}{i:Nat}{e:Eg}(h:f i=[e]):XL S f (i+1)=Q5 (XL S f i) e:=by
 funext m
 refine propext ⟨fun g=>?_,fun g=>?_⟩
 ·rcases g with g|⟨h1,j,hj,hm⟩
  ·exact .inl (.inl g)
  ·rcases b5j j i with g|g
   ·exact .inl (.inr ⟨h1,j,g,hm⟩)
   ·have:j=i:=by omega
    subst this;rw[h,a1B]at hm;subst hm;exact .inr ⟨rfl,h1⟩
 ·rcases g with(g|⟨h1,j,hj,hm⟩)|⟨rfl,h1⟩
  ·exact .inl g
  ·exact .inr ⟨h1,j,by omega,hm⟩
  ·exact .inr ⟨h1,i,by omega,by rw[h];exact a1B.2 rfl⟩
theorem d9O{κ:Type}(S:Eg->Prop)(F:κ->List Eg):UC S F []=S:=by
 funext m;exact propext ⟨fun g=>g.elim id fun⟨_,k,hk,_⟩=>(by cases hk), .inl⟩
theorem d0P{κ:Type}(S:Eg->Prop)(F:κ->List Eg)(ks:List κ)(k:κ)(f:Nat->List Eg)(n:Nat)(hf:∀m,m∈F k↔∃j,j<n/\m∈f j):UC S F (ks++[k])=XL (UC S F ks) f n:=by
 funext m
 refine propext ⟨fun g=>?_,fun g=>?_⟩
 ·rcases g with g|⟨h1,k',hk,hm⟩
  ·exact .inl (.inl g)
  ·rcases a9E.1 hk with g|g
   ·exact .inl (.inr ⟨h1,k',g,hm⟩)
   ·rw[a1B.1 g]at hm;exact .inr ⟨h1,(hf m).1 hm⟩
 ·rcases g with(g|⟨h1,k',hk,hm⟩)|⟨h1,hm⟩
  ·exact .inl g
  ·exact .inr ⟨h1,k',a7N _ hk,hm⟩
  ·exact .inr ⟨h1,k,by simp,(hf m).2 hm⟩
theorem d1P{κ:Type}(S:Eg->Prop)(F:κ->List Eg)(ks:List κ)(k:κ)(hf:F k=[]):UC S F (ks++[k])=UC S F ks:=by
 rw[d0P S F ks k (fun _=>[]) 0 (fun m=>by rw[hf];simp),oh]
end Go.Rt
end

section
namespace Go.Rt
open Go.Vm
def UD(h:Hs)(o:Ins):List AV:=[o.key.av, .iv (.Z6 2 (Vk (Zu h.events h.order o.table o.key)))]
def Tm(h:Hs)(l:List Ins):List (List AV):=l.map (UD h)
def Ur(table:Int)(o:Ins):Bool:=decide (o.table=table)
def f9Q(h:Hs)(table:Int)(pre:List (List AV))(x:List AV):Prop:=∃(i:Nat) (o:Ins),h.order[i]? =some o/\o.table=table/\pre=Tm h ((h.order.take i).filter (Ur table))/\x=UD h o
def g7I(h:Hs)(table:Int)(xs:List (List AV)):Prop:=xs=Tm h (h.order.filter (Ur table))
theorem c1p{table:Int}{l:List Ins}{i:Nat}{o:Ins}(ho:l[i]? =some o):(l.take (i+1)).filter (Ur table)=(l.take i).filter (Ur table)++if o.table=table then[o]else[]:=by
 rw[show l.take (i+1)=l.take i++[o] by rw[a3I,ho];rfl,b4j]
 congr 1
 unfold Ur
 by_cases h:o.table=table<;>simp[h]
theorem c2p{h:Hs}(Ny:h.order.length<2^62)(table:Int)(x:Value)(hc:∀k,(Zu h.events h.order table k).length<2^42):
 ox prog Uw [.pt [X8 h x], .pt [ci table]] (f9Q h table) (g7I h table):=by
 intro l Zs Zx cont hy;refine b5Y dm (by simp) (by decide) ?_;simp-dsimp[a0l,X8]
 refine YJ [] [5] h.order.length (fun i=>⟨[(12,vi i),(11,vi h.order.length),(10, .iv (.Z6 5 (Zi h.order))),(0, .iv (.v (.func (.yield l) #[] #[]))),(1, .iv (.pt [X8 h x])),(2, .iv (.pt [ci table]))],
  [(1000, .gh (Zs (Tm h ((h.order.take i).filter (Ur table)))) [] [])]⟩) (fun _=>True) ?_ trivial ?_
 ·simp-dsimp[X8,Tm]
 ·intro i hi _;simp-dsimp[EK];refine⟨fun Z2=>?_,fun X9=>?_⟩
  ·obtain⟨o,ho⟩:=Zr Z2;have hw:=Zk (n:=(i:Int)+1) (by omega);have YD:=c1p (table:=table) ho
   by_cases ht:o.table=table
   ·simp-dsimp[ho,Ins.Z8 o,ht,X8];rw[if_pos ht]at YD;have hp:f9Q h table (Tm h ((h.order.take i).filter (Ur table))) (UD h o):=⟨i,o,ho,ht,rfl,rfl⟩
    have Y8:Tm h ((h.order.take i).filter (Ur table))++[UD h o]=Tm h ((h.order.take (i+1)).filter (Ur table)):=by
     rw[YD];simp[Tm]
    have T1:UD h o=[o.key.av, .iv (.Z6 2 (Vk (Zu h.events h.order table o.key)))]:=by unfold UD;rw[ht]
    constructor
    all_goals refine Y6 (b4y h.events h.order table o.key (hc o.key)) rfl (by simp) (by simp) (by simp) (by simp) ?_
    all_goals simp-dsimp
    all_goals refine b6Y (g:=1000) (hy _ _ hp) (by simp) (by rw[T1];simp) (by rw[T1];rfl) ?_
    all_goals (
     cases Ve:cont (Tm h ((h.order.take i).filter (Ur table))) (UD h o)with
     |true=>
      simp-dsimp[Ve,Y8,hw];exact⟨Z2,rfl⟩
     |false=>
      simp-dsimp[Ve]
      exact⟨Zx (Tm h ((h.order.take i).filter (Ur table))) (UD h o),by simp,fun A B w hz=> .inr ⟨_,_,hz⟩,by simp⟩)
   ·rw[if_neg ht,b9o]at YD;simp-dsimp[ho,Ins.Z8 o,ht,hw,X8,YD];exact Z2
  ·have:(h.order.take i)=h.order:=a0z (by omega);rw[this];exact⟨Zs (Tm h (h.order.filter (Ur table))),by simp,fun A B w hz=> .inl ⟨_,rfl,hz⟩,by simp⟩
theorem c3p(h:Hs)(table:Int)(x:Value):Mr prog false N1 [.iv (X8 h x),vi table] [] (fun r K=>r= .fn Uw [] [.ptr 2 0, .ptr 3 0]/\K=[(3, .box [vi table]),(2, .box [.iv (X8 h x)])]):=by
 refine b8Y _ dj (by simp) (by decide) (fun x H' h=>by
  obtain⟨rfl,rfl⟩:=h;refine⟨fun id o ho=>?_,by simp⟩;simp only[Vm.look]at ho;split at ho
  ·cases ho;rfl
  ·split at ho
   ·cases ho;rfl
   ·cases ho) ?_
 simp-dsimp[Rb];exact⟨[],_,_,⟨rfl,rfl⟩,by simp-dsimp⟩
theorem c4p(h:Hs)(table:Int)(x:Value):ZX prog false N1 [.iv (X8 h x),vi table] [] (.fn Uw [] [.ptr 902 0, .ptr 903 0]) [(903, .box [vi table]),(902, .box [.iv (X8 h x)])]:=
 ((
  c3p h table x).one (fun _ _ e=>e) (fun id o ho=>by
  simp only[Vm.look]at ho;split at ho
  ·cases ho;rfl
  ·split at ho
   ·cases ho;rfl
   ·cases ho)).Zl (Ren.Xe [(2,902),(3,903)]) rfl
theorem c5p:XV prog Uw=true:=by kernel_rfl
def f9u:List AV->Vl
 | [.agg [.iv (.v (.bool t)), .iv (.v (.int _ n)), .iv (.v (.string s))],_]=>⟨t,n,s⟩
 | _=>Vl.zero
def LP(p:List (List AV)):List Vl:=p.map f9u
theorem d4m(h:Hs)(l:List Ins):LP (Tm h l)=l.map Ins.key:=by
 unfold LP Tm;rw[b2Z];rfl
def Ig(h:Hs)(table:Int)(k:Vl)(i:Nat):List Eg:=if 2<=i then[⟨(((Zu h.events h.order table k)[i-1]?).getD ⟨0,0⟩).txn,(((Zu h.events h.order table k)[i]?).getD ⟨0,0⟩).txn,1,table,k,false⟩]else[]
def wwK(h:Hs)(table:Int)(k:Vl):List Eg:=(a7I (Zu h.events h.order table k).length).flatMap (Ig h table k)
theorem mem_range{n:Nat}{f:Nat->List Eg}{m:Eg}:m∈(a7I n).flatMap f↔∃j,j<n/\m∈f j:=by
 rw[a2O];simp
theorem d5m{h:Hs}(Ny:h.order.length<2^62)(table:Int)(x:Value)(hc:∀k,(Zu h.events h.order table k).length<2^42)(S:Eg->Prop):
 ZX prog false Lp [.iv (X8 h x),vi table] (Ih S x) (.Zp []) (Ih (UC S (wwK h table) ((h.order.filter (Ur table)).map Ins.key)) x):=by
 refine oP f6k (by simp) (by decide) (by simp) (by simp[Ob.Zf]) ?_;simp-dsimp[Q0];refine Y6 (c4p h table x) rfl (by simp) (by simp) (by simp) (by simp) ?_;simp-dsimp
 refine b7Y [902,903] [4] 990 [(9, .fn Uw [] [.val (.pt [X8 h x]), .val (.pt [ci table])]),(3, .ptr 3 0),(2, .ptr 2 0)] (fun p=>∃i,p=Tm h ((h.order.take i).filter (Ur table)))
  (fun p=>(3, .box [vi table])::(2, .box [.iv (X8 h x)])::Ih (UC S (wwK h table) (LP p)) x) (c2p Ny table x hc) ?_ (by simp) c5p (by decide) (by simp) (by simp) ?_ ⟨0,rfl⟩ ?_ ?_
 ·simp-dsimp[LP,d9O]
 ·rintro pre _ ⟨i,o,_,_,_,rfl⟩;rfl
 ·rintro vs _ _ ⟨j,rfl⟩ ⟨i,o,ho,ht,Om,rfl⟩;have YD:=c1p (table:=table) ho;rw[if_pos ht]at YD;rw[Om]
  have Y8:Tm h ((h.order.take i).filter (Ur table))++[UD h o]=Tm h ((h.order.take (i+1)).filter (Ur table)):=by
   rw[YD];simp[Tm]
  refine⟨⟨i+1,Y8⟩,?_⟩
  have WQ:LP (Tm h ((h.order.take i).filter (Ur table))++[UD h o])=LP (Tm h ((h.order.take i).filter (Ur table)))++[o.key]:=by
   unfold LP;rw[a5M];rfl
  have T1:UD h o=[o.key.av, .iv (.Z6 2 (Vk (Zu h.events h.order table o.key)))]:=by unfold UD;rw[ht]
  have hlen:=hc o.key;have Zm:=d0P S (wwK h table) (LP (Tm h ((h.order.take i).filter (Ur table)))) o.key (Ig h table o.key) (Zu h.events h.order table o.key).length (fun m=>mem_range)
  have hf:∀q,Ig h table o.key q=if 2<=q then[⟨(((Zu h.events h.order table o.key)[q-1]?).getD ⟨0,0⟩).txn,(((Zu h.events h.order table o.key)[q]?).getD ⟨0,0⟩).txn,1,table,o.key,false⟩]else[]:=fun q=>rfl
  rw[WQ,Zm,T1];generalize UC S (wwK h table) (LP (Tm h ((h.order.take i).filter (Ur table))))=S0;generalize Ig h table o.key=f at hf⊢;generalize Zu h.events h.order table o.key=c at hf hlen⊢;simp-dsimp[D8,Jb,UF,St.set_mk,XU]
  have f0:f 0=[]:=by rw[hf,if_neg (by omega)]
  have f1:f 1=[]:=by rw[hf,if_neg (by omega)]
  refine YJ [] [] (c.length-2) (fun q=>⟨[(6,vi ((q+2:Nat):Int)),(5, .iv (.Z6 2 (Vk c))),(4, .ptr 4 0),(3, .ptr 3 0),(2, .ptr 2 0)],
   [(4, .box (o.key.cells.map .iv)),(990, .gh ZT vs [.fn Uw [] [.val (.pt [X8 h x]), .val (.pt [ci table])], .ptr 3 0, .ptr 2 0]),(3, .box [vi table]),(2, .box [.iv (X8 h x)])]++Ih (XL S0 f (q+2)) x⟩) (fun _=>True) ?_ trivial ?_
  ·have:XL S0 f (0+2)=S0:=by rw[d7O f1,d7O f0,oh]
   simp-dsimp[this]
  ·intro q hq _;simp-dsimp[D9];refine⟨fun Z2=>?_,fun X9=>?_⟩
   ·obtain⟨v,hv⟩:∃v,c[q+2]? =some v:=Zr (by omega);obtain⟨u,hu⟩:∃u,c[q+1]? =some u:=Zr (by omega)
    have w1:IntKind.i64.wrap ((q:Int)+2-1)=((q+1:Nat):Int):=by rw[Zk (by omega)];omega
    have w2:IntKind.i64.wrap ((q:Int)+2+1)=(q:Int)+1+2:=by rw[Zk (by omega)];omega
    have t1:((q:Int)+2).toNat=q+2:=by omega
    have p1:(0:Int)<=(q:Int)+2:=by omega
    have CY:f (q+2)=[⟨u.txn,v.txn,1,table,o.key,false⟩]:=by
     rw[hf,if_pos (by omega),show q+2-1=q+1 from rfl,hu,hv];rfl
    have Qz:=d8O (S:=S0) CY;simp-dsimp[w1,t1,p1,hv,hu,YB];refine⟨by omega,?_⟩;refine T6 (d5O h (XL S0 f (q+2)) x ⟨u.txn,v.txn,1,table,o.key,false⟩) rfl (by simp) (by simp[Eg.av,Eg.cells]) (by simp[Eg.av,Eg.cells]) (by simp) (by simp) (by simp) (by simp) ?_;rw[<-Qz];simp-dsimp[w2];omega
   ·have Mn:XL S0 f (q+2)=XL S0 f c.length:=by
     rcases b5j c.length 2 with g|g
     ·have mB:q=0:=by omega
      have h2:XL S0 f (0+2)=S0:=by rw[d7O f1,d7O f0,oh]
      rw[mB,h2]
      have:c.length=0\/c.length=1:=by omega
      rcases this with e|e<;>rw[e]
      ·rw[oh]
      ·rw[d7O f0,oh]
     ·rw[show q+2=c.length by omega]
    rw[Mn]
 ·rintro vs _ _ hS;rw[hS,d4m];simp-dsimp[XU]
theorem c5Z(es:List Ev)(os:List Ins)(table:Int)(k:Vl)(v:Vs):Yo es os table k v<(Zu es os table k).length/\ -1<=Yo es os table k v:=by
 unfold Yo;split
 ·have:=b4G es os table k;omega
 ·rcases oC (fun x:Vs=>decide (x.txn=v.txn)) (Zu es os table k)with⟨i,x,g1,_,g3,_⟩|⟨_,g⟩
  ·have:=(a5y.1 g1).1;rw[g3];omega
  ·rw[g];omega
def rdT(e:Ev)(p:Int)(c:List Vs)(S:Eg->Prop)(m:Eg):Prop:=S m\/(m.Z4≠m.to/\m∈IL e p++MN e p c)
def nL(e:Ev)(p:Int)(c:List Vs)(S:Eg->Prop)(m:Eg):Prop:=S m\/(m.Z4≠m.to/\m∈MN e p c)
theorem c6Z{h:Hs}(x:Value)(e:Ev)(Y8:HK h.events)(hc:(Zu h.events h.order e.table e.key).length<2^42)(S:Eg->Prop):
 ZX prog false Ln [.iv (X8 h x),e.av] (Ih S x) (.Zp []) (Ih (UC S (fun _:Unit=>LB h e) [()]) x):=by
 have hP:=b8y h.events h.order e.table e.key e.Z4 Y8 hc;have hC:=b4y h.events h.order e.table e.key hc;have Z2:=c5Z h.events h.order e.table e.key e.Z4
 have hS:UC S (fun _:Unit=>LB h e) [()]=rdT e (Yo h.events h.order e.table e.key e.Z4) (Zu h.events h.order e.table e.key) S:=by
  funext m;unfold UC LB rdT;simp
 rw[hS];generalize Yo h.events h.order e.table e.key e.Z4=p at*;generalize Zu h.events h.order e.table e.key=c at*;refine oP f7f (by simp) (by decide) (by simp) (by simp[Ob.Zf]) ?_;simp-dsimp[Nf,X8,Ev.av,Ev.Z8 e];refine ZN hP (by simp) (by simp) ?_;simp-dsimp;refine Y6 hC rfl (by simp) (by simp) (by simp) (by simp) ?_;simp-dsimp
 have hT1:0<p->rdT e p c S=nL e p c (Q5 S ⟨e.Z4.txn,e.txn,2,e.table,e.key,e.cur⟩):=by
  intro h1
  funext m
  unfold rdT nL IL Q5;rw[if_pos h1];simp only[b4O,b3H,a5E,or_assoc,eq_iff_iff];constructor
  ·rintro(g|⟨g1,rfl|g2⟩)
   ·exact .inl g
   ·exact .inr (.inl ⟨rfl,g1⟩)
   ·exact .inr (.inr ⟨g1,g2⟩)
  ·rintro(g|⟨rfl,g1⟩|⟨g1,g2⟩)
   ·exact .inl g
   ·exact .inr ⟨g1, .inl rfl⟩
   ·exact .inr ⟨g1, .inr g2⟩
 have hT0:¬0<p->rdT e p c S=nL e p c S:=by
  intro h1
  funext m
  unfold rdT nL IL;rw[if_neg h1,b3H]
 have hU1:∀(S:Eg->Prop) (v:Vs),0<=p->c[(p+1).toNat]? =some v->p+1<c.length->e.Z4.txn≠e.txn->nL e p c S=Q5 S ⟨e.txn,v.txn,4,e.table,e.key,e.cur⟩:=by
  intro S v g1 g2 g3 g4
  funext m
  unfold nL MN Q5;rw[if_pos ⟨g1,g3,g4⟩,g2,a1B,eq_iff_iff];constructor
  ·rintro(g|⟨g1,rfl⟩)
   ·exact .inl g
   ·exact .inr ⟨rfl,g1⟩
  ·rintro(g|⟨rfl,g1⟩)
   ·exact .inl g
   ·exact .inr ⟨g1,rfl⟩
 have hU0:∀(S:Eg->Prop),¬(0<=p/\p+1<c.length/\e.Z4.txn≠e.txn)->nL e p c S=S:=by
  intro S g
  funext m
  unfold nL MN;rw[if_neg g];simp
 have hw:IntKind.i64.wrap (p+1)=p+1:=Zk (by omega)
 by_cases h1:0<p
 ·rw[hT1 h1]
  have Sm:¬p<=0:=by omega
  simp-dsimp[h1,Sm];refine T6 (d5O h S x ⟨e.Z4.txn,e.txn,2,e.table,e.key,e.cur⟩) rfl (by simp) (by simp[Eg.av,Eg.cells,X8]) (by simp[Eg.av,Eg.cells]) (by simp) (by simp) (by simp) (by simp) ?_;generalize Q5 S ⟨e.Z4.txn,e.txn,2,e.table,e.key,e.cur⟩=S1
  have h0:0<=p:=by omega
  by_cases h2:p+1<c.length
  ·by_cases h3:e.Z4.txn=e.txn
   ·rw[hU0 S1 fun g=>g.2.2 h3];simp-dsimp[h0,hw,h2,h3]
   ·obtain⟨v,hv⟩:∃v,c[(p+1).toNat]? =some v:=Zr (by omega);rw[hU1 S1 v h0 hv h2 h3]
    have h4:0<=p+1:=by omega
    have G8:∀hh,(Vk c)[(p+1).toNat]'hh=v.cells:=fun hh=>(a5y.1 (show(Vk c)[(p+1).toNat]? =some v.cells by rw[d9i,hv];rfl)).2
    simp-dsimp[h0,hw,h2,h3,G8,h4,YB];refine T6 (d5O h S1 x ⟨e.txn,v.txn,4,e.table,e.key,e.cur⟩) rfl (by simp) (by simp[Eg.av,Eg.cells,X8]) (by simp[Eg.av,Eg.cells]) (by simp) (by simp) (by simp) (by simp) ?_;simp-dsimp
  ·rw[hU0 S1 fun g=>h2 g.2.1];simp-dsimp[h0,hw,h2]
 ·rw[hT0 h1]
  have Sm:p<=0:=by omega
  simp-dsimp[h1,Sm]
  by_cases h0:0<=p
  ·obtain rfl:p=0:=by omega
   have Wp:IntKind.i64.wrap 1=1:=Zk (by omega)
   by_cases h2:1<c.length
   ·have Qy:(1:Int)<c.length:=by omega
    have h2n:¬(c.length:Int)<=1:=by omega
    by_cases h3:e.Z4.txn=e.txn
    ·rw[hU0 S fun g=>g.2.2 h3];simp-dsimp[Wp,h2,Qy,h2n,h3]
    ·obtain⟨v,hv⟩:∃v,c[1]? =some v:=Zr h2;rw[hU1 S v (by omega) (by simpa using hv) (by omega) h3]
     have G8:∀hh,c[1]'hh=v:=fun hh=>(a5y.1 hv).2
     simp-dsimp[Wp,h2,Qy,h2n,h3,G8,YB];refine T6 (d5O h S x ⟨e.txn,v.txn,4,e.table,e.key,e.cur⟩) rfl (by simp) (by simp[Eg.av,Eg.cells,X8]) (by simp[Eg.av,Eg.cells]) (by simp) (by simp) (by simp) (by simp) ?_;simp-dsimp
   ·have Qy:¬(1:Int)<c.length:=by omega
    rw[hU0 S fun g=>Qy (by simpa using g.2.1)];simp-dsimp[Wp,h2,Qy]
  ·rw[hU0 S fun g=>h0 g.1];simp-dsimp[h0]
abbrev f3v:Sk:=(true,[.b, .i .i64, .s],true)
def d1z(l:List Rf)(k:Vl):Option Rf:=Wr (fun r:Rf=>decide (r.key=k)) l
def D1(l:List Rf):List Value->Option (List IV)
 | [.bool t, .int .i64 n, .string s]=>(d1z l ⟨t,n,s⟩).map fun r=>r.Z4.cells
 | _=>none
theorem d2z:D1 []=fun _=>none:=by
 funext q;unfold D1;split
 ·rfl
 ·rfl
theorem d3z(l:List Rf)(r:Rf):ZH (D1 l) [.bool r.key.text, .int .i64 r.key.n, .string r.key.s] (some [ci r.Z4.txn,ci r.Z4.n])=D1 (l++[r]):=by
 funext q
 simp only[ZH];split
 ·rename_i h;subst h;simp only[D1,d1z,MX];rw[if_pos (by simp)];rfl
 ·rename_i ZV;unfold D1;split
  ·rename_i t n s;simp only[d1z,MX];rw[if_neg];intro hk;rw[decide_eq_true_eq]at hk;exact ZV (by rw[hk])
  ·rfl
theorem d4z(l:List Rf)(t:Bool)(n:Int)(s:ByteArray):
 Nz [.iv (.v (.int .i64 0)), .iv (.v (.int .i64 0))] true false (D1 l [Value.bool t,Value.int .i64 n,Value.string s])=(VF l ⟨t,n,s⟩).av:=by
 simp only[D1,VF];unfold d1z
 cases Wr (fun r:Rf=>decide (r.key=⟨t,n,s⟩)) l with
 |none=>rfl
 |some r=>rfl
theorem d5z{h:Hs}(Ny:h.order.length<2^62)(x:Value)(e:Ev)(XJ:e.Ok)(Y8:HK h.events)(hc:∀k,(Zu h.events h.order e.table k).length<2^42)(S:Eg->Prop):
 ZX prog false Lm [.iv (X8 h x),e.av] (Ih S x) (.Zp []) (Ih (UC S (QE h e) ((h.order.filter (Ur e.table)).map Ins.key)) x):=by
 refine oP f3m (by simp) (by decide) (by simp) (by simp[Ob.Zf]) ?_;simp-dsimp[I7,Ev.av,Ev.Z8 e]
 refine YJ [] [6] e.refs.length (fun i=>⟨[(16,vi i),(15,vi e.refs.length),(14, .iv (.Z6 5 (Mx e.refs))),(4, .ptr 4 0),(3, .ptr 3 0),(2, .ptr 2 0)],
  [(4, .box [.mpr 12]),(12, .map f3v (D1 (e.refs.take i))),(3, .box (e.cells.map .iv)),(2, .box [.iv (X8 h x)])]++Ih S x⟩) (fun _=>True) ?_ trivial ?_
 ·simp-dsimp[d2z,Ev.Z8 e]
 ·intro i hi _;simp-dsimp[D7];have mZ:=XJ.refs;refine⟨fun Z2=>?_,fun X9=>?_⟩
  ·obtain⟨r,hr⟩:=Zr Z2;have hw:=Zk (n:=(i:Int)+1) (by omega)
   have YD:e.refs.take (i+1)=e.refs.take i++[r]:=by rw[a3I,hr];rfl
   simp-dsimp[hr,hw,Rf.Z8 r,d3z,YD];exact Z2
  ·rw[a0z X9];simp-dsimp[Ev.Z8 e];refine Y6 (c4p h e.table x) rfl (by simp) (by simp) (by simp) (by simp) ?_;simp-dsimp
   have XM:Ob.box [AV.iv (ci e.txn),AV.iv (ci e.kind),AV.iv (ci e.level),AV.iv (ci e.table),AV.iv (cb e.key.text),AV.iv (ci e.key.n),AV.iv (IV.v (Value.string e.key.s)),
    AV.iv (ci e.Z4.txn),AV.iv (ci e.Z4.n),AV.iv (ci e.n),AV.iv (IV.Z6 3 (Yp e.row)),
    AV.iv (ci e.pred.op),AV.iv (ci e.pred.col),AV.iv (cb e.pred.v.text),AV.iv (ci e.pred.v.n),
    AV.iv (IV.v (Value.string e.pred.v.s)),AV.iv (cb e.pred.w.text),AV.iv (ci e.pred.w.n),
    AV.iv (IV.v (Value.string e.pred.w.s)),AV.iv (IV.Z6 9 (List.map Pd.cells e.pred.l)),
    AV.iv (IV.Z6 5 (Mx e.refs)),AV.iv (cb e.cur)]= .box (e.cells.map .iv):=by rw[Ev.Z8 e];rfl
   rw[XM]
   refine b7Y [902,903] [7,9] 990 [(29, .fn Uw [] [.val (.pt [X8 h x]), .val (.pt [ci e.table])]),(4, .ptr 4 0),(3, .ptr 3 0),(2, .ptr 2 0)] (fun p=>∃i,p=Tm h ((h.order.take i).filter (Ur e.table)))
    (fun p=>(4, .box [.mpr 12])::(12, .map f3v (D1 e.refs))::(3, .box (e.cells.map .iv))::(2, .box [.iv (X8 h x)])::Ih (UC S (QE h e) (LP p)) x) (c2p Ny e.table x hc) ?_ (by simp) c5p (by decide) (by simp) (by simp) ?_ ⟨0,rfl⟩ ?_ ?_
   ·simp-dsimp[LP,d9O]
   ·rintro pre _ ⟨i,o,_,_,_,rfl⟩;rfl
   ·rintro vs _ _ ⟨j,rfl⟩ ⟨i,o,ho,ht,Om,rfl⟩;have YD:=c1p (table:=e.table) ho;rw[if_pos ht]at YD;rw[Om]
    have hrw:Tm h ((h.order.take i).filter (Ur e.table))++[UD h o]=Tm h ((h.order.take (i+1)).filter (Ur e.table)):=by
     rw[YD];simp[Tm]
    refine⟨⟨i+1,hrw⟩,?_⟩
    have WQ:LP (Tm h ((h.order.take i).filter (Ur e.table))++[UD h o])=LP (Tm h ((h.order.take i).filter (Ur e.table)))++[o.key]:=by
     unfold LP;rw[a5M];rfl
    have T1:UD h o=[o.key.av, .iv (.Z6 2 (Vk (Zu h.events h.order e.table o.key)))]:=by unfold UD;rw[ht]
    have hlen:=hc o.key;have hP:=b8y h.events h.order e.table o.key (VF e.refs o.key) Y8 hlen
    have hCh:∀n:Int,ZX prog true Lb [.iv (Yv h.events h.order),vi e.table,o.key.av,vi n,e.pred.av] [] (vb (Vh h.events h.order e.table o.key n e.pred)) []:=fun n=>b5G h.events h.order e.table o.key n XJ.pred Y8 hlen
    rw[WQ,T1];simp-dsimp[I9,I8,UF,St.set_mk,XU,d4z,Ev.Z8 e];simp-dsimp[X8];refine ZN hP (by simp) (by simp) ?_
    by_cases UT:Yo h.events h.order e.table o.key (VF e.refs o.key)<0\/(VF e.refs o.key).txn=e.txn
    ·have hK:QE h e o.key=[]:=by unfold QE;rw[if_pos UT]
     rw[d1P _ _ _ _ hK]
     by_cases h0:Yo h.events h.order e.table o.key (VF e.refs o.key)<0
     ·simp-dsimp[h0];rfl
     ·have h1:=UT.resolve_left h0;simp-dsimp[h0,h1];rfl
    ·have h0:¬Yo h.events h.order e.table o.key (VF e.refs o.key)<0:=fun g=>UT (.inl g)
     have h1:¬(VF e.refs o.key).txn=e.txn:=fun g=>UT (.inr g)
     have hK:QE h e o.key=(a7I (Zu h.events h.order e.table o.key).length).flatMap (Qn h e o.key (Yo h.events h.order e.table o.key (VF e.refs o.key))):=by unfold QE;rw[if_neg UT]
     rw[d0P _ (QE h e) _ o.key (Qn h e o.key (Yo h.events h.order e.table o.key (VF e.refs o.key))) (Zu h.events h.order e.table o.key).length (fun m=>by rw[hK];exact mem_range)]
     have hf:∀q,Qn h e o.key (Yo h.events h.order e.table o.key (VF e.refs o.key)) q=if Vh h.events h.order e.table o.key q e.pred=true then
      [if(q:Int)<=Yo h.events h.order e.table o.key (VF e.refs o.key)then⟨(((Zu h.events h.order e.table o.key)[q]?).getD ⟨0,0⟩).txn,e.txn,3,e.table,o.key,false⟩else⟨e.txn,(((Zu h.events h.order e.table o.key)[q]?).getD ⟨0,0⟩).txn,5,e.table,o.key,false⟩]else[]:=fun q=>rfl
     generalize Qn h e o.key (Yo h.events h.order e.table o.key (VF e.refs o.key))=f at hf⊢;generalize Yo h.events h.order e.table o.key (VF e.refs o.key)=p at*;generalize UC S (QE h e) (LP (Tm h ((h.order.take i).filter (Ur e.table))))=S0;generalize Zu h.events h.order e.table o.key=c at*;simp-dsimp[h0,h1]
     refine YJ [] [] c.length (fun q=>⟨[(55,vi q),(54,vi c.length),(10,vi p),(8, .iv (.Z6 2 (Vk c))),(7, .ptr 7 0),(3, .ptr 3 0),(2, .ptr 2 0)],
      [(
       9, .box ((VF e.refs o.key).cells.map .iv)),(7, .box (o.key.cells.map .iv)),(990, .gh ZT vs [.fn Uw [] [.val (.pt [X8 h x]), .val (.pt [ci e.table])], .ptr 4 0, .ptr 3 0, .ptr 2 0]),
       (4, .box [.mpr 12]),(12, .map f3v (D1 e.refs)),(3, .box (e.cells.map .iv)),(2, .box [.iv (X8 h x)])]++Ih (XL S0 f q) x⟩) (fun _=>True) ?_ trivial ?_
     ·simp-dsimp[oh,Ev.Z8 e,X8]
     ·intro q hq _;have hP9:a1V 9 (c5P 11 (e.cells.map AV.iv))=e.pred.cells.map AV.iv:=Ev.qN e;simp-dsimp[Ja,Ev.Z8 e];simp-dsimp[X8];refine⟨fun Z2=>?_,fun X9=>?_⟩
      ·obtain⟨v,hv⟩:=Zr Z2;have hw:=Zk (n:=(q:Int)+1) (by omega);refine ZN (hCh q) (by simp[Pd.Z5]) (by simp[Pd.Z5]) ?_;have CY:=hf q;rw[hv]at CY
       cases Q6:Vh h.events h.order e.table o.key q e.pred with
       |false=>
        rw[Q6,if_neg (by simp)]at CY;have Qz:=d7O (S:=S0) CY;simp-dsimp[Q6,hw,Qz];exact⟨Z2,rfl⟩
       |true=>
        rw[Q6,if_pos rfl]at CY
        by_cases hle:(q:Int)<=p
        ·rw[if_pos hle]at CY;have Qz:=d8O (S:=S0) CY;simp-dsimp[Q6,hle,hv];refine T6 (d5O h (XL S0 f q) x ⟨v.txn,e.txn,3,e.table,o.key,false⟩) rfl (by simp) (by simp[Eg.av,Eg.cells,X8]) (by simp[Eg.av,Eg.cells]) (by simp) (by simp) (by simp) (by simp) ?_;have D0:Q5 (XL S0 f q) ⟨v.txn,e.txn,3,e.table,o.key,false⟩=XL S0 f (q+1):=Qz.symm
         rw[D0];simp-dsimp[hw];exact⟨Z2,rfl⟩
        ·rw[if_neg hle]at CY;have Qz:=d8O (S:=S0) CY;simp-dsimp[Q6,hle,hv];refine T6 (d5O h (XL S0 f q) x ⟨e.txn,v.txn,5,e.table,o.key,false⟩) rfl (by simp) (by simp[Eg.av,Eg.cells,X8]) (by simp[Eg.av,Eg.cells]) (by simp) (by simp) (by simp) (by simp) ?_;have D0:Q5 (XL S0 f q) ⟨e.txn,v.txn,5,e.table,o.key,false⟩=XL S0 f (q+1):=Qz.symm
         rw[D0];simp-dsimp[hw];exact⟨Z2,rfl⟩
      ·rw[show q=c.length by omega]
   ·rintro vs _ _ hS;rw[hS,d4m];simp-dsimp[XU]
def nN:List Int->Int->Int
 | [],z=>z
 |d::r,z=>if d≠0 then d else nN r z
theorem c7T(a b:Eg):ZX prog true GF [a.av,b.av] [] (vi (a.Nr b)) []:=by
 have hc:a.Nr b=nN [IntKind.i64.wrap (a.Z4-b.Z4),IntKind.i64.wrap (a.to-b.to),IntKind.i64.wrap (a.kind-b.kind),IntKind.i64.wrap (a.table-b.table)] (a.key.cmp b.key):=rfl;rw[hc];refine YG f2f (by simp[Eg.av]) (by decide) rfl ?_;simp-dsimp[d0g,Eg.av,Eg.cells,YB];generalize IntKind.i64.wrap (a.Z4-b.Z4)=d0;generalize IntKind.i64.wrap (a.to-b.to)=d1
 generalize IntKind.i64.wrap (a.kind-b.kind)=d2;generalize IntKind.i64.wrap (a.table-b.table)=d3
 refine YJ [] [] 4 (fun i=>⟨[(28,vi i),(27, .agg [vi d0,vi d1,vi d2,vi d3]),(2, .ptr 2 0),(3, .ptr 3 0)],[(2, .box (a.cells.map .iv)),(3, .box (b.cells.map .iv))]⟩)
  (fun i=>(0<i->d0=0)/\(1<i->d1=0)/\(2<i->d2=0)/\(3<i->d3=0)) ?_ (by omega) ?_
 ·simp-dsimp[Eg.cells]
 ·intro i hi ⟨q0,q1,q2,q3⟩;have w1:IntKind.i64.wrap 1=1:=Zk (by omega);have w2:IntKind.i64.wrap 2=2:=Zk (by omega);have w3:IntKind.i64.wrap 3=3:=Zk (by omega);have w4:IntKind.i64.wrap 4=4:=Zk (by omega)
  have X4:i=0\/i=1\/i=2\/i=3\/i=4:=by omega
  rcases X4 with rfl|rfl|rfl|rfl|rfl
  ·by_cases h0:d0=0
   ·simp-dsimp[V0,h0,Eg.cells,w1]
   ·simp-dsimp[V0,h0,nN]
  ·have q0:=q0 (by omega)
   by_cases h0:d1=0
   ·simp-dsimp[V0,h0,q0,Eg.cells,w2]
   ·simp-dsimp[V0,h0,nN,q0]
  ·have q0:=q0 (by omega);have q1:=q1 (by omega)
   by_cases h0:d2=0
   ·simp-dsimp[V0,h0,q0,q1,Eg.cells,w3]
   ·simp-dsimp[V0,h0,nN,q0,q1]
  ·have q0:=q0 (by omega);have q1:=q1 (by omega);have q2:=q2 (by omega)
   by_cases h0:d3=0
   ·simp-dsimp[V0,h0,q0,q1,q2,Eg.cells,w4]
   ·simp-dsimp[V0,h0,nN,q0,q1,q2]
  ·have q0:=q0 (by omega);have q1:=q1 (by omega);have q2:=q2 (by omega);have q3:=q3 (by omega);simp-dsimp[V0,q0,q1,q2,q3,nN,Eg.cells];refine ZN (b5t a.key b.key) (by simp) (by simp) ?_;simp-dsimp[nN,q0,q1,q2,q3]
theorem c8T(a b:Eg):ZX prog true Ux [a.av,b.av] [] (vi (a.cmp b)) []:=by
 refine YG f3f (by simp[Eg.av]) (by decide) rfl ?_
 have hc:a.cmp b=if a.Nr b≠0\/a.Zw=b.Zw then a.Nr b else if b.Zw=true then-1 else 1:=rfl
 have hs:=c7T a b;rw[hc];generalize a.Nr b=c at*;simp-dsimp[a0k,Eg.av,Eg.cells];refine ZN hs (by simp[Eg.av,Eg.cells]) (by simp[Eg.av,Eg.cells]) ?_
 by_cases h0:c=0
 ·cases hca:a.Zw<;>cases hcb:b.Zw<;>simp-dsimp[h0]
 ·simp-dsimp[h0]
theorem c9T(a b:Eg)(ha:a.key.s.size<2^63):ZX prog true Gs [a.av,b.av] [] (vb (a.lss b)) []:=by
 refine YG f4f (by simp[Eg.av]) (by decide) rfl ?_;unfold Eg.lss;have hs:=b2u a.key b.key ha;generalize a.key.cmp b.key=c at*
 by_cases h1:a.Z4=b.Z4
 ·by_cases h2:a.to=b.to
  ·by_cases h3:a.kind=b.kind
   ·by_cases h4:a.table=b.table
    ·simp-dsimp[a9k,Eg.av,Eg.cells,h1,h2,h3,h4];refine ZN hs (by simp) (by simp) ?_
     by_cases h5:c=0
     ·cases hca:a.Zw<;>simp-dsimp[h5]
     ·simp-dsimp[h5]
    ·simp-dsimp[a9k,Eg.av,Eg.cells,h1,h2,h3,h4]
   ·simp-dsimp[a9k,Eg.av,Eg.cells,h1,h2,h3]
  ·simp-dsimp[a9k,Eg.av,Eg.cells,h1,h2]
 ·simp-dsimp[a9k,Eg.av,Eg.cells,h1]
end Go.Rt
end

section
namespace Go.Vm
open Go.Sort (Holds HoldsK putRow putRowK flatK grow putCells mapBlock)
open Go.Proofs (sortWorldK)
set_option linter.unusedSectionVars false
section
variable{α:Type}[Inhabited α]
def Un(enc:α->List Value)(x:α):List IV:=(enc x).map IV.v
theorem c1O{enc:α->List Value}{xs:List α}{i j:Nat}{c:IV}(h:at2 (xs.map (Un enc)) i j=some c):∃x v,xs[i]? =some x/\(enc x)[j]? =some v/\c= .v v:=by
 unfold at2 at h;rw[a1C]at h
 cases hx:xs[i]? with
 |none=>rw[hx]at h;simp at h
 |some x=>
  rw[hx]at h;simp only[Option.map_some,Option.bind_some,Un,a1C]at h
  cases hv:(enc x)[j]? with
  |none=>rw[hv]at h;simp at h
  |some v=>rw[hv]at h;simp at h;exact⟨x,v,rfl,hv,h.symm⟩
theorem c2O{enc:α->List Value}{xs:List α}{i j:Nat}{x:α}{v:Value}(hx:xs[i]? =some x)(hv:(enc x)[j]? =some v):at2 (xs.map (Un enc)) i j=some (.v v):=by
 unfold at2;rw[a1C,hx];simp[Un,hv]
theorem c3O{A:Nat->Prop}{w:World}{u v:Value}(h:Yq A w (.v u) v):v=u:=by cases h;rfl
theorem c4O{l:List α}{i:Nat}{x:α}(h:l[i]? =some x):l.toArray[i]! =x:=by
 obtain⟨h1,h2⟩:=a5y.1 h;simp[h1,h2]
theorem c5O{l:List Value}{i:Nat}{x:Value}(h:l[i]? =some x):l[i]! =x:=by
 obtain⟨h1,h2⟩:=a5y.1 h;simp[h1,h2]
theorem c6O{P:Program}{f g:FuncId}(k:Nat)(M0:0<k)(enc:α->List Value)(hk:∀x,(enc x).length=k)(h1:∀x,∀v∈enc x,v.oneCell'=true)(F:List α->List α)(hF:∀l,(F l).length=l.length)
 (hs:∀(Wh off cap:Nat) (zs:List α) (w:World),HoldsK enc k w Wh off zs.toArray->Wh<w.heap.size->zs.length<4611686018427387904->
  Calls P f #[.slice (some ⟨Wh,off,none⟩) zs.length cap, .func (.func g) #[] #[]] w fun e w'=>e= .returned (.tuple #[])/\∃n os,w'=sortWorldK enc k w Wh off n (F zs).toArray os)
 (hn:∀(p:Option Addr) (cap:Nat) (fv:Value) (w:World),Calls P f #[.slice p 0 cap,fv] w fun e w'=>e= .returned (.tuple #[])/\w'=w)
 (xs:List α) (hl:xs.length<2^62):ZX P false f [.sl 1000 k 0 xs.length, .fn g [] []] [(1000, .list k (xs.map (Un enc)))] (.Zp []) [(1000, .list k ((F xs).map (Un enc)))]:=by
 have hlen:(F xs).length=xs.length:=hF xs
 have XP:∀{o:Ob} {id:Nat} {q:Ob},look [(1000,o)] id=some q->id=1000/\q=o:=by
  intro o id q h;simp only[look]at h;split at h
  ·exact⟨by omega,by cases h;rfl⟩
  ·cases h
 refine⟨⟨fun id o h=>by obtain⟨_,rfl⟩:=XP h;rfl,fun id o h=>by obtain⟨_,rfl⟩:=XP h;rfl⟩,?_⟩
 intro A ψ w vs hA UJ hinj VU Wi QC U9;have ho:=UJ 1000 (.list k (xs.map (Un enc))) rfl;have hr:=U9 0 _ rfl;have hg:=U9 1 _ rfl
 obtain⟨v,fv,rfl⟩:∃v fv,vs=[v,fv]:=by
  match vs,QC with
  | [v,fv],_=>exact⟨v,fv,rfl⟩
 simp only[a7S,a0F,a5J,a1J]at hr hg
 obtain rfl:fv= .func (.func g) #[] #[]:=by
  cases hg with
  |fn _ _ _ vf vc hf hc _ _=>
   obtain rfl:vf= #[]:=b9b (by simpa using hf);obtain rfl:vc= #[]:=b9b (by simpa using hc);rfl
 have key:∀(w':World),w.heap.size<=w'.heap.size->Rn w w'->(∀b,b<w.heap.size->¬ZD ψ [(1000, .list k (xs.map (Un enc)))] b->w'.heap[b]? =w.heap[b]?)->
  WU (fun b=>((false=false/\A b)\/w.heap.size<=b)/\¬ZD ψ [(1000, .list k ((F xs).map (Un enc)))] b) ψ [(1000, .list k ((F xs).map (Un enc)))] w' 1000 (.list k ((F xs).map (Un enc)))->
  ∃v ZF,(Ending.returned (.tuple #[]):Ending)= .returned v∧
  (∀b,b<w.heap.size->¬ZD ψ [(1000, .list k (xs.map (Un enc)))] b->w'.heap[b]? =w.heap[b]?)/\w.heap.size<=w'.heap.size/\Rn w w'∧
  (∀id o,look [(1000,Ob.list k (xs.map (Un enc)))] id=some o->ZF.main id=ψ id)∧
  (∀id o b,look [(1000,Ob.list k ((F xs).map (Un enc)))] id=some o->ZZ ZF id b->(∃o0,look [(1000,Ob.list k (xs.map (Un enc)))] id=some o0/\ZZ ψ id b)\/w.heap.size<=b)∧
  (∀id XK o o' b,look [(1000,Ob.list k ((F xs).map (Un enc)))] id=some o->look [(1000,Ob.list k ((F xs).map (Un enc)))] XK=some o'->ZZ ZF id b->ZZ ZF XK b->id=XK)/\Ug ZF [(1000, .list k ((F xs).map (Un enc)))] w'∧
  (∀id o,look [(1000,Ob.list k ((F xs).map (Un enc)))] id=some o->WU (fun b=>((false=false/\A b)\/w.heap.size<=b)/\¬ZD ZF [(1000, .list k ((F xs).map (Un enc)))] b) ZF [(1000, .list k ((F xs).map (Un enc)))] w' id o)∧
  ZL (fun b=>((false=false/\A b)\/w.heap.size<=b)/\¬ZD ZF [(1000, .list k ((F xs).map (Un enc)))] b) ZF [(1000, .list k ((F xs).map (Un enc)))] w' (.Zp []) v:=by
  intro w' h1 h2 h3 h4;refine⟨.tuple #[],ψ,rfl,h3,h1,h2,fun _ _ _=>rfl,fun id o b h hb=> .inl ?_,fun id XK o o' b h h' _ _=>?_,fun id o b h hb=>?_,fun id o h=>?_, .Zp [] #[] rfl (fun i c h=>by simp at h)⟩
  ·obtain⟨rfl,rfl⟩:=XP h;exact⟨.list k (xs.map (Un enc)),rfl,hb⟩
  ·obtain⟨rfl,_⟩:=XP h;obtain⟨rfl,_⟩:=XP h';rfl
  ·obtain⟨rfl,rfl⟩:=XP h;have:=(VU 1000 (.list k (xs.map (Un enc))) b rfl hb).1;cases this
  ·obtain⟨rfl,rfl⟩:=XP h;exact h4
 obtain⟨Wp,ho⟩:=ho
 have hwF:∀x∈(F xs).map (Un enc),x.length=k:=by
  intro x hx;obtain⟨y,_,rfl⟩:=a0E.1 hx;simp[Un,hk]
 by_cases hx:xs=[]
 ·subst hx
  have hv:∃p cap,v= .slice p 0 cap:=by
   cases hr with
   |UR=>exact⟨_,_,rfl⟩
   |sl=>exact⟨_,_,rfl⟩
  obtain⟨p,cap,rfl⟩:=hv;refine(hn p cap _ w).mono ?_;rintro e w' ⟨rfl,rfl⟩;refine key w' (a8F _) ⟨rfl,rfl,rfl,a8F _⟩ (fun _ _ _=>rfl) ?_;have hso:F []=[]:=a2S (by simpa using hF []);rw[hso];refine⟨Wp,?_⟩
  rcases ho with⟨g1,g2⟩|⟨b,k',c,e,g1,g2,g3,g4,g5⟩
  ·exact .inl ⟨g1,g2⟩
  ·exact .inr ⟨b,k',c,e,g1,g2,g3,g4,fun i j x h=>by simp[at2]at h⟩
 ·have W0:=List.length_pos_iff.2 hx
  rcases ho with⟨_,g2⟩|⟨b,q,c,e,g1,g2,g3,g4,g5⟩
  ·exact absurd (by simpa using g2) hx
  ·obtain⟨cap,rfl⟩:∃cap,v= .slice (some ⟨b,q.1,none⟩) xs.length cap:=by
    generalize hlx:xs.length=n at hr W0
    cases hr with
    |UR=>omega
    |sl id sz lo len b' k' cap a o n' XI he hxx hb ha Vc SS hm=>
     rw[g1]at hb;cases hb;have:=ha (by omega);rw[Nat.zero_mul,Nat.add_zero]at this;subst this;exact⟨cap,rfl⟩
   have C3:b<w.heap.size:=Vw g2;have hB:ZD ψ [(1000, .list k (xs.map (Un enc)))] b:=⟨1000, .list k (xs.map (Un enc)),rfl, .inl ⟨q,g1⟩⟩;rw[a5O]at g4
   have hH:HoldsK enc k w b q.1 xs.toArray:=by
    intro t ht;rw[Go.Sort.size_flatK,b7r]at ht;rw[Go.Sort.get_flatK _ _ _ _ (by simpa using ht)];have hi:t/k<xs.length:=Nat.div_lt_of_lt_mul (by rw[c2t];exact ht);have hj:t%k<k:=Nat.mod_lt _ M0;obtain⟨x,hxx⟩:∃x,xs[t/k]? =some x:=⟨_,a4G hi⟩
    obtain⟨u,hu⟩:∃u,(enc x)[t%k]? =some u:=⟨_,a4G (by rw[hk];exact hj)⟩;rw[c4O hxx,c5O hu];have h5:=c3O (g5 _ _ _ (c2O hxx hu))
    have LD:t/k*k+t%k=t:=by rw[c2t];exact Nat.div_add_mod t k
    rw[LD]at h5
    have hcs:q.1+t<c.size:=by omega
    rw[a3E,a3N hcs]at h5;constructor
    ·simp only[World.cell?,g2];rw[a3N hcs];simpa using h5
    ·simp only[World.frozen?,g2];simp
   refine(hs b q.1 cap xs w hH C3 (by omega)).mono ?_;rintro ex w' ⟨rfl,n,os,rfl⟩
   have hfl:(flatK enc k (F xs).toArray).size=xs.length*k:=by rw[Go.Sort.size_flatK,b7r,hlen]
   unfold sortWorldK putRowK
   have Ya:(putRow id (Go.Sort.ahead w n) b q.1 (flatK enc k (F xs).toArray)).heap.size=w.heap.size:=by simp[putRow,mapBlock,Go.Sort.ahead]
   have Rl:∀i,i≠b->i<w.heap.size->(grow (putRow id (Go.Sort.ahead w n) b q.1 (flatK enc k (F xs).toArray)) os).heap[i]? =w.heap[i]? :=by
    intro i hi Z2;rw[Go.Sort.heap_grow_old _ _ (by rw[Ya];exact Z2)];simp only[putRow,mapBlock,Go.Sort.ahead,a5N];rw[if_neg (Ne.symm hi)]
   have Nt:(grow (putRow id (Go.Sort.ahead w n) b q.1 (flatK enc k (F xs).toArray)) os).heap[b]? =some (.cells (putCells id q.1 (flatK enc k (F xs).toArray) c) e (0,0)):=by
    rw[Go.Sort.heap_grow_old _ _ (by rw[Ya];exact C3)];simp only[putRow,mapBlock,Go.Sort.ahead,a5N,if_true];rw[g2];rfl
   refine key _ (by rw[Go.Sort.size_grow,Ya];omega) ⟨rfl,rfl,rfl,Nat.le_add_right _ _⟩ (fun i hi hh=>Rl i (fun e=>hh (e▸hB)) hi) ?_;refine⟨hwF, .inr ⟨b,q,_,e,g1,Nt,?_,?_,fun i j x h=>?_⟩⟩
   ·simp only[putCells,b2P];exact g3
   ·rw[a5O,hlen];exact g4
   ·obtain⟨y,u,hy,hu,rfl⟩:=c1O h;have Zd:=(a5y.1 hy).1;have SJ:=(a5y.1 hu).1;rw[hlen]at Zd;rw[hk]at SJ
    have XZ:i*k+j<xs.length*k:=by
     have:=a0G k (show i+1<=xs.length from Zd);rw[a4N,d1T]at this;omega
    have Z2:q.1+(i*k+j)<(putCells id q.1 (flatK enc k (F xs).toArray) c).size:=by simp only[putCells,b2P];omega
    have e1:(i*k+j)/k=i:=(Go.Sort.blk_iff k i _ M0).1 ⟨by omega,by omega⟩
    have e2:(i*k+j)%k=j:=by rw[Nat.mod_eq_sub_div_mul,e1];omega
    have:(putCells id q.1 (flatK enc k (F xs).toArray) c).getD (q.1+(i*k+j)) undef=u:=by
     rw[a3E,a3N Z2,a1J];simp only[putCells,Array.getElem_mapIdx];rw[if_pos (by rw[hfl];omega)]
     have e3:q.1+(i*k+j)-q.1=i*k+j:=by omega
     rw[e3,Go.Sort.get_flatK _ _ _ _ (by rw[b7r,hlen];exact XZ),e1,e2,c4O hy,c5O hu];rfl
    rw[this];exact .v _ (h1 y u (a6y hu))
end
theorem c7O{P:Program}{f g:FuncId}(k:Nat)
 (hn:∀(p:Option Addr) (cap:Nat) (fv:Value) (w:World),Calls P f #[.slice p 0 cap,fv] w fun e w'=>e= .returned (.tuple #[])/\w'=w):ZX P true f [.iv (.Z6 k []), .fn g [] []] [] (.Zp []) []:=by
 refine⟨⟨fun id o h=>(by cases h),fun id o h=>by cases h⟩,?_⟩;intro A ψ w vs hA UJ hinj VU Wi QC U9;have hr:=U9 0 _ rfl
 obtain⟨v,fv,rfl⟩:∃v fv,vs=[v,fv]:=by
  match vs,QC with
  | [v,fv],_=>exact⟨v,fv,rfl⟩
 simp only[a7S,a0F,a1J]at hr
 have hv:∃p cap,v= .slice p 0 cap:=by
  cases hr with
  |iv _ _ h=>
   generalize hx:IV.Z6 k []=x at h
   cases h<;>try cases hx
   ·exact⟨_,_,rfl⟩
   ·exact⟨_,_,rfl⟩
 obtain⟨p,cap,rfl⟩:=hv;refine(hn p cap fv w).mono ?_;rintro e w' ⟨rfl,rfl⟩;refine⟨.tuple #[],ψ,rfl,fun _ _ _=>rfl,a8F _,⟨rfl,rfl,rfl,a8F _⟩,fun _ _ _=>rfl,fun id o b h=>(by cases h),fun id XK o o' b h=>(by cases h),fun id o b h=>(by cases h),fun id o h=>(by cases h), .Zp [] #[] rfl (fun i c h=>by simp at h)⟩
end Go.Vm
end

section
namespace Go.Proofs
open Go.Shelf
def Tryz.sortF_ren:Go.Shelf.Ren:=⟨fun| 6=>69| 15=>115| 14=>114| 28=>162| 29=>163| 20=>154| 21=>155| 22=>156| 23=>157| 24=>158| 25=>159| 26=>160| 27=>161| 46=>194| 47=>195| 48=>196| 49=>197| 50=>198| 57=>213|n=>n,fun| 22=>30| 24=>37| 25=>86| 3=>3| 39=>135| 0=>0| 53=>177| 55=>179| 4=>4| 46=>170| 45=>169| 50=>174| 5=>5| 9=>9| 66=>209| 70=>213| 76=>226| 77=>227|n=>n,fun|n=>n⟩
theorem Tryz.sortF:Go.Proofs.SlLaysF0.n6 Tryz.prog Tryz.sortF_ren:={
 mixed:=by kernel_rfl
 f6:=⟨Tryz.f69.name,by decide,Tryz.func69.trans (congrArg some (by kernel_rfl))⟩
 f14:=⟨Tryz.f114.name,by decide,Tryz.func114.trans (congrArg some (by kernel_rfl))⟩
 f15:=Tryz.func115.trans (congrArg some (by kernel_rfl))
 f20:=⟨Tryz.f154.name,by decide,Tryz.func154.trans (congrArg some (by kernel_rfl))⟩
 f21:=⟨Tryz.f155.name,by decide,Tryz.func155.trans (congrArg some (by kernel_rfl))⟩
 f22:=⟨Tryz.f156.name,by decide,Tryz.func156.trans (congrArg some (by kernel_rfl))⟩
 f23:=⟨Tryz.f157.name,by decide,Tryz.func157.trans (congrArg some (by kernel_rfl))⟩
 f24:=⟨Tryz.f158.name,by decide,Tryz.func158.trans (congrArg some (by kernel_rfl))⟩
 f25:=⟨Tryz.f159.name,by decide,Tryz.func159.trans (congrArg some (by kernel_rfl))⟩
 f26:=⟨Tryz.f160.name,by decide,Tryz.func160.trans (congrArg some (by kernel_rfl))⟩
 f27:=⟨Tryz.f161.name,by decide,Tryz.func161.trans (congrArg some (by kernel_rfl))⟩
 f28:=Tryz.func162.trans (congrArg some (by kernel_rfl))
 f29:=Tryz.func163.trans (congrArg some (by kernel_rfl))
 f46:=⟨Tryz.f194.name,by decide,Tryz.func194.trans (congrArg some (by kernel_rfl))⟩
 f47:=Tryz.func195.trans (congrArg some (by kernel_rfl))
 f48:=Tryz.func196.trans (congrArg some (by kernel_rfl))
 f49:=⟨Tryz.f197.name,by decide,Tryz.func197.trans (congrArg some (by kernel_rfl))⟩
 f50:=⟨Tryz.f198.name,by decide,Tryz.func198.trans (congrArg some (by kernel_rfl))⟩
 f57:=⟨Tryz.f213.name,by decide,Tryz.func213.trans (congrArg some (by kernel_rfl))⟩
 t0:=Tryz.underlying0
 a0:=Tryz.isAgg0
 z0:=Tryz.sizeOf0
 v0:=Tryz.zeroValue0
 t3:=Tryz.underlying3
 a3:=Tryz.isAgg3
 z3:=Tryz.sizeOf3
 v3:=Tryz.zeroValue3
 t4:=Tryz.underlying4
 a4:=Tryz.isAgg4
 z4:=Tryz.sizeOf4
 v4:=Tryz.zeroValue4
 t5:=Tryz.underlying5
 a5:=Tryz.isAgg5
 z5:=Tryz.sizeOf5
 v5:=Tryz.zeroValue5
 t9:=Tryz.underlying9
 a9:=Tryz.isAgg9
 z9:=Tryz.sizeOf9
 v9:=Tryz.zeroValue9
 t22:=Tryz.underlying30
 a22:=Tryz.isAgg30
 z22:=Tryz.sizeOf30
 v22:=Tryz.zeroValue30
 t25:=Tryz.underlying86
 a25:=Tryz.isAgg86
 z25:=Tryz.sizeOf86
 v25:=Tryz.zeroValue86
 t39:=Tryz.underlying135
 a39:=Tryz.isAgg135
 z39:=Tryz.sizeOf135
 v39:=Tryz.zeroValue135
 t45:=Tryz.underlying169
 a45:=Tryz.isAgg169
 z45:=Tryz.sizeOf169
 v45:=Tryz.zeroValue169
 t46:=Tryz.underlying170
 a46:=Tryz.isAgg170
 z46:=Tryz.sizeOf170
 v46:=Tryz.zeroValue170
 t50:=Tryz.underlying174
 a50:=Tryz.isAgg174
 z50:=Tryz.sizeOf174
 v50:=Tryz.zeroValue174
 t53:=Tryz.underlying177
 a53:=Tryz.isAgg177
 z53:=Tryz.sizeOf177
 v53:=Tryz.zeroValue177
 t55:=Tryz.underlying179
 a55:=Tryz.isAgg179
 z55:=Tryz.sizeOf179
 v55:=Tryz.zeroValue179
 t66:=Tryz.underlying209
 a66:=Tryz.isAgg209
 z66:=Tryz.sizeOf209
 v66:=Tryz.zeroValue209
 t70:=Tryz.underlying213
 a70:=Tryz.isAgg213
 z70:=Tryz.sizeOf213
 v70:=Tryz.zeroValue213
 t76:=Tryz.underlying226
 a76:=Tryz.isAgg226
 z76:=Tryz.sizeOf226
 v76:=Tryz.zeroValue226
 t77:=Tryz.underlying227
 a77:=Tryz.isAgg227
 z77:=Tryz.sizeOf227
 v77:=Tryz.zeroValue227}
open Go.Sort Go.RowKit Go.Lib in
theorem Tryz.slices_SortFunc_none(p:Option Addr)(cap:Nat)(fv:Value)(w:World):
 Calls Tryz.prog 69 #[.slice p 0 cap,fv] w fun e w'=>e= .returned (.tuple #[])/\w'=w:=AnyF.slices_SortFunc_none Tryz.sortF p cap fv w
end Go.Proofs
end

section
namespace Go.Rt
open Go.Vm
def SH(e:Eg):List Value:=[.int .i64 e.Z4, .int .i64 e.to, .int .i64 e.kind, .int .i64 e.table, .bool e.key.text, .int .i64 e.key.n, .string e.key.s, .bool e.Zw]
abbrev QZ:={e:Eg//e.D}
instance:Inhabited QZ:=⟨⟨⟨0,0,0,0,Vl.zero,false⟩,⟨by unfold Eg.Rt Vl.right Vl.zero;decide,by decide,by decide,by decide,by decide⟩⟩⟩
theorem d9g{w w':World}(h1:∀b,b<w.heap.size->w'.heap[b]? =w.heap[b]?)(h2:w.heap.size<=w'.heap.size)(h3:Rn w w'):∃q os,w'=Go.Sort.grow (w.drewN q) os:=by
 refine⟨w'.drawn-w.drawn,w'.heap.extract w.heap.size w'.heap.size,?_⟩;obtain⟨heap,tape,drawn,os,output⟩:=w;obtain⟨I5,h1b,g4P,os',g7m⟩:=w';obtain⟨e1,e2,e3,e4⟩:=h3;simp only at e1 e2 e3 e4 h1 h2;subst e1 e2 e3
 have hh:I5=heap++I5.extract heap.size I5.size:=by
  apply Array.ext_getElem?;intro i
  by_cases hi:i<heap.size
  ·rw[h1 i hi,Array.getElem?_append_left hi]
  ·rw[Array.getElem?_append_right (by omega),Array.getElem?_extract]
   by_cases mu:i<I5.size
   ·rw[if_pos (by omega)]
    congr 1;omega
   ·rw[if_neg (by omega),Array.getElem?_eq_none (by omega)]
 unfold Go.Sort.grow World.drewN;simp only[World.mk.injEq,true_and,and_true];exact⟨hh,by omega⟩
theorem d0h(Wh off size:Nat)(w:World):Go.Proofs.CmpLays prog Ux #[] (fun e:QZ=>SH e.1) 8 (fun a b=>a.1.cmp b.1) Wh off size w:=by
 intro m os dk _ x y;generalize Go.Proofs.sortWorldK (fun e:QZ=>SH e.1) 8 w Wh off m dk os=W
 have hav:∀e:Eg,ZL (fun _=>False) pl0 [] W e.av (.agg (SH e).toArray):=by
  intro e
  refine .agg _ _ rfl fun i c hc=>?_
  have:∃u,(SH e)[i]? =some u/\c= .iv (.v u)/\u.oneCell'=true:=by
   match i,hc with
   | 0,hc=>cases hc;exact⟨_,rfl,rfl,rfl⟩
   | 1,hc=>cases hc;exact⟨_,rfl,rfl,rfl⟩
   | 2,hc=>cases hc;exact⟨_,rfl,rfl,rfl⟩
   | 3,hc=>cases hc;exact⟨_,rfl,rfl,rfl⟩
   | 4,hc=>cases hc;exact⟨_,rfl,rfl,rfl⟩
   | 5,hc=>cases hc;exact⟨_,rfl,rfl,rfl⟩
   | 6,hc=>cases hc;exact⟨_,rfl,rfl,rfl⟩
   | 7,hc=>cases hc;exact⟨_,rfl,rfl,rfl⟩
   |i+8,hc=>cases hc
  obtain⟨u,h1,rfl,h2⟩:=this
  have:(SH e).toArray.getD i undef=u:=by
   rw[a3E,List.getElem?_toArray,h1];rfl
  rw[this];exact UB h2
 have h:=(c8T x.1 y.1).2 (fun _=>False) pl0 W [.agg (SH x.1).toArray, .agg (SH y.1).toArray] (fun _ h=>h.elim) (fun _ _ h=>by cases h) (fun _ _ _ _ _ h=>by cases h) (fun _ _ _ h=>by cases h)
  (fun b ⟨_,_,h,_⟩=>by cases h) rfl (fun i c hc=>by
   match i,hc with
   | 0,hc=>cases hc;exact hav x.1
   | 1,hc=>cases hc;exact hav y.1
   |i+2,hc=>cases hc)
 refine Calls.mono h ?_;rintro e w' ⟨v,ZF,rfl,k1,k2,k3,_,_,_,_,_,k8⟩;refine⟨by rw[Vp k8],d9g (fun b hb=>k1 b hb fun⟨_,_,h,_⟩=>by cases h) k2 k3⟩
theorem d1h(a b:QZ):a.1.cmp b.1=a.1.Nq b.1:=f4Q a.2 b.2
theorem nI(a b:QZ):Go.Proofs.ltOf (fun a b:QZ=>a.1.cmp b.1) a b=a.1.lss b.1:=by
 show decide (a.1.cmp b.1<0)=_
 rw[d1h,Bool.eq_iff_iff,decide_eq_true_eq,c8k]
theorem d3h:Go.Sort.SWO (Go.Proofs.ltOf fun a b:QZ=>a.1.cmp b.1) where
 irrefl:=fun x=>by rw[nI];exact c1l _
 trans:=fun x y z=>by rw[nI,nI,nI];exact c9k
 ntrans:=fun x y z h1 h2=>by
  rw[nI]at*
  cases h:x.1.lss z.1 with
  |false=>rfl
  |true=>
   cases h3:y.1.lss x.1 with
   |true=>have:=c9k h3 h;rw[this]at h2;cases h2
   |false=>rw[<-c2l x.2.rt y.2.rt h1 h3]at h2;rw[h2]at h;cases h
theorem d4h(x y:QZ)(h1:Go.Proofs.ltOf (fun a b:QZ=>a.1.cmp b.1) x y=false)(h2:Go.Proofs.ltOf (fun a b:QZ=>a.1.cmp b.1) y x=false):x=y:=by
 rw[nI]at*;exact Subtype.ext (c2l x.2.rt y.2.rt h1 h2)
theorem d5h:XV prog Ux=true:=by kernel_rfl
theorem t24:Go.Proofs.Tryz.sortF_ren.t 24=37:=rfl
theorem f1S:(prog.underlying 37).isSome=true:=by kernel_rfl
theorem d6h:XT prog 37=true:=by kernel_rfl
theorem g5P:XY prog 37=some 8:=by kernel_rfl
theorem d7h{P:Program}{t:TypeId}{k:Nat}(h:XY P t=some k)(w:World):(Go.sizeOf t).run P w= .ok k w:=Go.Vm.run_sizeOf w h
theorem f2S(w:World):(isAgg (Go.Proofs.Tryz.sortF_ren.t 24)).run prog w= .ok true w:=by
 obtain⟨d,hd⟩:=c3t.1 f1S;rw[t24,e1o w hd,d6h]
theorem d8h(w:World):(Go.sizeOf (Go.Proofs.Tryz.sortF_ren.t 24)).run prog w= .ok 8 w:=by
 rw[t24,d7h g5P w]
def d9h(l:List QZ):List QZ:=l.mergeSort fun x y=> !(Go.Proofs.ltOf (fun a b:QZ=>a.1.cmp b.1) y x)
theorem d0i(l:List QZ)(hl:l.length<2^62):ZX prog false N7 [.sl 1000 8 0 l.length, .fn Ux [] []] [(1000, .list 8 (l.map (Un fun e:QZ=>SH e.1)))] (.Zp []) [(1000, .list 8 ((d9h l).map (Un fun e:QZ=>SH e.1)))]:=by
 refine c6O 8 (by decide) (fun e:QZ=>SH e.1) (fun _=>rfl) (fun x v hv=>?_) d9h (fun l=>List.length_mergeSort l) ?_ (fun p cap fv w=>Go.Proofs.Tryz.slices_SortFunc_none p cap fv w) l hl
 ·simp only[SH,a5E,b1E,or_false]at hv
  rcases hv with rfl|rfl|rfl|rfl|rfl|rfl|rfl|rfl<;>rfl
 ·intro Wh off cap zs w hH hb hs
  have:=Go.Proofs.AnyQ.slices_SortFunc_total Go.Proofs.Tryz.sortF 8 f2S d8h (fun e:QZ=>SH e.1) (fun _=>rfl) (fun x v hv=>by
   simp only[SH,a5E,b1E,or_false]at hv
   rcases hv with rfl|rfl|rfl|rfl|rfl|rfl|rfl|rfl<;>rfl) (fun a b=>a.1.cmp b.1) d3h Ux #[] Wh off cap zs.toArray w (d3X d5h) (d0h Wh off _ w) hH hb (by simpa using hs) d4h
  rw[b7r]at this;exact this
theorem d1i{l:List Eg}(hD:∀e,e∈l->e.D)(VM:l.Nodup)(hl:l.length<2^62):∃r,Ri r/\(∀e,e∈r↔e∈l)/\r.length=l.length∧
 ZX prog false N7 [.sl 1000 8 0 l.length, .fn Ux [] []] [(1000, .list 8 (ZM l))] (.Zp []) [(1000, .list 8 (ZM r))]:=by
 let L:List QZ:=l.attach.map fun e=>⟨e.1,hD e.1 e.2⟩
 have hL:L.map Subtype.val=l:=by simp[L,b2Z,b7A]
 have hlen:L.length=l.length:=by simp[L]
 have hp:(d9h L).Perm L:=c5e _ _
 have MR:((d9h L).map Subtype.val).Perm l:=by have:=hp.map Subtype.val;rw[hL]at this;exact this
 have hiv:∀q:List QZ,q.map (Un fun e:QZ=>SH e.1)=ZM (q.map Subtype.val):=fun q=>by unfold ZM;rw[b2Z];rfl
 have hs:=d0i L (by omega);rw[hiv,hiv,hL,hlen]at hs;refine⟨(d9h L).map Subtype.val,?_,fun e=>MR.mem_iff,by rw[MR.length_eq],hs⟩
 have h1:(d9h L).Pairwise fun x y=>(!(Go.Proofs.ltOf (fun a b:QZ=>a.1.cmp b.1) y x))=true:=by
  refine c3S (fun a b c h1 h2=>?_) (fun a b=>?_) L
  ·rw[b1K]at*;exact d3h.ntrans _ _ _ h2 h1
  ·rw[b6w,b1K,b1K]
   cases h:Go.Proofs.ltOf (fun a b:QZ=>a.1.cmp b.1) b a with
   |false=>exact .inl rfl
   |true=>
    right;rw[nI]at*;exact c0l h
 have h2:((d9h L).map Subtype.val).Nodup:=MR.nodup_iff.2 VM;unfold Ri;rw[c9D];unfold d0j at h2;rw[c9D]at h2;refine(h1.and h2).imp ?_;rintro a b ⟨g1,g2⟩;rw[b1K,nI]at g1
 cases h:a.1.lss b.1 with
 |true=>rfl
 |false=>exact absurd (c2l a.2.rt b.2.rt h g1) g2
theorem d2i:ZX prog true N7 [.iv (.Z6 8 []), .fn Ux [] []] [] (.Zp []) []:=
 c7O 8 fun p cap fv w=>Go.Proofs.Tryz.slices_SortFunc_none p cap fv w
theorem e8t{s:St}{t:Nat}{y:IV}(h:(s.get t).Xt=some y):Le s (s.set t (.iv y)):=by
 rintro E n a w ⟨ψ,hs⟩;refine⟨ψ,{hs with frame:=fun u=>?_}⟩;rw[St.WW];split
 ·rename_i e;subst e;exact .iv _ _ (d7A (hs.frame t) h (fun _ _ h=>h))
 ·exact hs.frame u
def Yz(D:List Nat)(t:Nat)(x:IV)(s:St):Prop:=D.all (· <1000)=true/\((s.ZR D).get t).Xt=some x/\LC s.hp=true
theorem Te{P:Program}{f:FuncId}{args:List AV}{x:IV}{n t:Nat}{c:Z9}(hf:ZG P f=some (n,c,[.tmp t]))
 (YZ:args.length<=n) (hn:n<=999) (h:X7 P c ⟨SR 0 args,[]⟩ ⟨fun s=>∃D,Yz D t x s,fun _ _=>False,fun s=>∃D,Yz D t x s,fun _ _=>False⟩):ZX P false f args [] (.iv x) []:=
 IN hf YZ rfl rfl (M7 (Tj hn _ _ _ h) fun s h=>by
  obtain⟨D,h1,h2,h3⟩:=h
  have hk:(((s.ZR D).set t (.iv x)).hp.map (·.1)).all (· <1000)=true:=by
   show((s.ZR D).hp.map (·.1)).all (· <1000)=true
   rw[a8C];intro k hk;exact a8C.1 (Dx h3) k (lQ D hk)
  refine⟨((s.ZR D).set t (.iv x)).ZR (((s.ZR D).set t (.iv x)).hp.map (·.1)),[.iv x],((Sg D h1 s).trans (e8t h2)).trans (Sg _ hk _),?_,rfl,fun id=>?_,fun h=>by cases h⟩
  ·simp[VN,mG _ (show((s.ZR D).set t (.iv x)).get t= .iv x by rw[St.WW,if_pos rfl])]
  ·refine CF _ ?_
   cases hl:Vm.look ((s.ZR D).set t (.iv x)).hp id with
   |none=>exact .inr rfl
   |some o=>exact .inl (a6M.1 (CD hl)))
theorem e0u{s:St}{t sz id:Nat}(h:s.get t= .nil sz)(YQ:Vm.look s.hp id=none)(Vi:id<1000):Le s ((s.add id (.list sz [])).set t (.sl id sz 0 0)):=by
 rintro E n a w ⟨ψ,hs⟩;have h1:=hs.new (o:= .list sz []) (p:=none) (w':=w) Vi YQ (Ext.refl w) (fun b k e=>by cases e) ⟨fun _ h=>(by cases h), .inl ⟨by simp[XE],rfl⟩⟩
 have VY:XE ψ id none id=none:=by simp[XE]
 refine⟨_,{h1 with frame:=fun u=>?_}⟩;have hf:=h1.frame u;rw[St.WW];split
 ·rename_i e;subst e;rw[show(s.add id (.list sz [])).get t= .nil sz from h]at hf;generalize a.tmps.getD t undef=v at hf;cases hf;exact .UR id sz (.list sz []) 0 (by rw[show((s.add id (.list sz [])).set t (.sl id sz 0 0)).hp=(s.add id (.list sz [])).hp from rfl,WL,if_pos rfl]) rfl VY
 ·exact hf
def ni(t:Nat)(R:AV->Hp->Prop)(s:St):Prop:=∃s1,Le s s1/\E8 t R s1
theorem e1u{P:Program}{f:FuncId}{args:List AV}{n t:Nat}{c:Z9}(R:AV->Hp->Prop)(hf:ZG P f=some (n,c,[.tmp t]))(YZ:args.length<=n)(hn:n<=999)
 (hR:∀x H',R x H'->(∀id o,Vm.look H' id=some o->o.Zf=false/\o.flat)/\x.flat=true)
 (h:X7 P c ⟨SR 0 args,[]⟩ ⟨ni t R,fun _ _=>False,ni t R,fun _ _=>False⟩):Mr P true f args [] R:=
 e4d hf YZ rfl rfl (fun x H' h id o ho=>((hR x H' h).1 id o ho).1) (M7 (Tj hn _ _ _ h) fun s h=>by
  obtain⟨s1,h0,D,x,H',h1,h2⟩:=h
  exact⟨⟨[(t,x)],H'⟩,[x],H',h0.trans h2.le,by simp[VN,St.get,Vm.look],h1,fun _=>rfl,fun _=>⟨(hR x H' h1).2,fun id o ho=>((hR x H' h1).1 id o ho).2⟩⟩)
def Ia(e:Eg):List AV:=[e.av]
def QW(ks:List Eg):List (List AV):=ks.map Ia
def np(S:Eg->Prop)(pre:List (List AV))(x:List AV):Prop:=∃ks k,pre=QW ks/\x=Ia k/\(ks++[k]).Nodup/\∀j∈ks++[k],S j
def f0Z(S:Eg->Prop)(xs:List (List AV)):Prop:=∃ks:List Eg,xs=QW ks/\ks.Nodup/\∀j,j∈ks↔S j
theorem f1Z(S:Eg->Prop)(e:Eg):gE S (SH e)≠none↔S e:=by
 unfold SH;simp only[gE];split
 ·rename_i h;exact⟨fun _=>h,fun _ h=>by cases h⟩
 ·rename_i h;exact⟨fun g=>absurd rfl g,fun g=>absurd g h⟩
theorem d7R{S:Eg->Prop}{q:List Value}(h:gE S q≠none):∃e,S e/\q=SH e:=by
 unfold gE at h;split at h
 ·rename_i f t k tb x n s c;split at h
  ·rename_i hs;exact⟨_,hs,rfl⟩
  ·exact absurd rfl h
 ·exact absurd rfl h
theorem d8R{a b:Eg}(h:SH a=SH b):a=b:=by
 unfold SH at h;simp only[a4U,Value.int.injEq,Value.bool.injEq,Value.string.injEq,true_and,and_true]at h;obtain⟨h1,h2,h3,h4,h5,h6,h7,h8⟩:=h;exact Eg.eq_iff.2 ⟨h1,h2,h3,h4,Vl.eq_iff.2 ⟨h5,h6,h7⟩,h8⟩
theorem d9R{S:Eg->Prop}{q:List Value}{c:List IV}(h:gE S q=some c):c=[ci 1]:=by
 unfold gE at h;split at h
 ·split at h
  ·cases h;rfl
  ·cases h
 ·cases h
theorem d0S(
 S:Eg->Prop):ox prog Qa [.pt [.mp HJ (gE S)]] (np S) (f0Z S):=by
 intro l Zs Zx cont hy;refine b5Y f1t (by simp) (by decide) ?_;simp-dsimp[a8k];intro L0 hn0 hL0 _
 refine HZ (fun n s=>∃(left:List (List Value)) (last:Option (List Value)) (ks:List Eg),n=left.length/\s=⟨[(5, .ptr 5 0),(0, .iv (.v (.func (.yield l) #[] #[])))],[(5, .iter HJ (gE S) left last),(1000, .gh (Zs (QW ks)) [] [])]⟩∧
  ks.Nodup/\(∀q∈left,∃k,S k/\q=SH k/\k∉ks)/\(∀k∈ks,S k)/\∀k,S k->k∈ks\/SH k∈left) ⟨_,_,LeTo.le (D:=[]) (s':=⟨[(5, .ptr 5 0),(0, .iv (.v (.func (.yield l) #[] #[])))],[(5, .iter HJ (gE S) L0 none),(1000, .gh (Zs (QW [])) [] [])]⟩) ?_,L0,none,[],rfl,rfl,by simp,?_,by simp,?_⟩ ?_
 ·simp-dsimp[QW]
 ·intro q hq;obtain⟨k,h1,h2⟩:=d7R ((hL0 q).1 hq);exact⟨k,h1,h2,by simp⟩
 ·intro k hkL;exact .inr ((hL0 _).2 ((f1Z S k).2 hkL))
 ·rintro n s ⟨left,last,ks,rfl,rfl,h1,h2,h3,h4⟩;simp-dsimp[D6];refine⟨?_,?_⟩
  ·rintro rfl;refine⟨Zs (QW ks),by simp,fun A B w hz=> .inl ⟨_,⟨ks,rfl,h1,fun j=>⟨h3 j,fun hj=>(h4 j hj).resolve_right (by simp)⟩⟩,hz⟩,by simp⟩
  ·intro q c hq hg;obtain⟨k,q1,rfl,q3⟩:=h2 q hq;obtain rfl:=d9R hg;simp-dsimp[hg,SH]
   have hp:np S (QW ks) (Ia k):=⟨ks,k,rfl,rfl,by
    refine b6n.2 ⟨h1,by simp,?_⟩;rintro a ha b hb rfl;rw[a1B.1 hb]at ha
    exact q3 ha,fun j hj=>by
    rcases a9E.1 hj with h|h
    ·exact h3 j h
    ·rw[a1B.1 h];exact q1⟩
   intro c' _;have QP:Value.int .i64 k.Z4::Value.int .i64 k.to::Value.int .i64 k.kind::Value.int .i64 k.table::Value.bool k.key.text::Value.int .i64 k.key.n::Value.string k.key.s::Value.bool k.Zw::[]=SH k:=rfl;refine b6Y (g:=1000) (hy _ _ hp) (by simp) (by simp[Ia,Eg.av,Eg.cells]) (by simp[Ia,Eg.av,Eg.cells,AV.plain,AV.Ch]) ?_
   cases Ve:cont (QW ks) (Ia k)with
   |true=>
    have hkr:QW ks++[Ia k]=QW (ks++[k]):=by simp[QW]
    simp-dsimp[Ve,hkr,QP];refine⟨_,c4M hq,_,LeTo.le (D:=[3]) (s':=⟨[(5, .ptr 5 0),(0, .iv (.v (.func (.yield l) #[] #[])))],[(5, .iter HJ (gE S) (Ou (SH k) left) (some (SH k))),(1000, .gh (Zs (QW (ks++[k]))) [] [])]⟩) ?_,_,rfl,_,_,rfl,?_⟩
    ·simp-dsimp
    ·refine⟨b6n.2 ⟨h1,by simp,fun a ha b hb=>by rintro rfl;rw[a1B.1 hb]at ha;exact q3 ha⟩,fun q Vz=>?_,fun j hj=>?_,fun j hj=>?_⟩
     ·obtain⟨hq1,Qm⟩:=c3M.1 Vz;obtain⟨k',p1,rfl,p3⟩:=h2 q hq1;refine⟨k',p1,rfl,fun hm=>?_⟩
      rcases a9E.1 hm with h|h
      ·exact p3 h
      ·rw[a1B.1 h]at Qm;exact Qm rfl
     ·rcases a9E.1 hj with h|h
      ·exact h3 j h
      ·rw[a1B.1 h];exact q1
     ·rcases h4 j hj with h|h
      ·exact .inl (a7N _ h)
      ·by_cases e:j=k
       ·exact .inl (List.mem_append_right _ (by simp[e]))
       ·exact .inr (c3M.2 ⟨h,fun g=>e (d8R g)⟩)
   |false=>
    simp-dsimp[Ve];exact⟨Zx (QW ks) (Ia k),by simp,fun A B w hz=> .inr ⟨_,_,hz⟩,by simp⟩
theorem d1S(g:List Value->Option (List IV)):Mr prog false Ll [.iv (.mp HJ g)] [] (fun r K=>r= .fn Qa [] [.ptr 1 0]/\K=[(1, .box [.iv (.mp HJ g)])]):=by
 refine b8Y _ f9m (by simp) (by decide) (fun x H' h=>by
  obtain⟨rfl,rfl⟩:=h;refine⟨fun id o ho=>?_,by simp⟩;simp only[Vm.look]at ho;split at ho
  ·cases ho;rfl
  ·cases ho) ?_
 simp-dsimp[I6];exact⟨[],_,_,⟨rfl,rfl⟩,by simp-dsimp⟩
theorem d2S(g:List Value->Option (List IV)):ZX prog false Ll [.iv (.mp HJ g)] [] (.fn Qa [] [.ptr 901 0]) [(901, .box [.iv (.mp HJ g)])]:=
 ((
  d1S g).one (fun _ _ e=>e) (fun id o ho=>by
  simp only[Vm.look]at ho;split at ho
  ·cases ho;rfl
  ·cases ho)).Zl (Ren.Xe [(1,901)]) rfl
theorem d3S:XV prog Qa=true:=by kernel_rfl
def f8v(j:Nat)(S:List Eg->Prop)(r:AV)(K:Hp):Prop:=∃ks:List Eg,S ks/\((ks=[]/\r= .nil 8/\K=[])\/(ks≠[]/\r= .sl j 8 0 ks.length/\K=[(j, .list 8 (ZM ks))]))
def f2Z:List AV->Eg
 | [.agg [.iv (.v (.int _ a)), .iv (.v (.int _ b)), .iv (.v (.int _ c)), .iv (.v (.int _ d)), .iv (.v (.bool t)), .iv (.v (.int _ n)), .iv (.v (.string s)), .iv (.v (.bool u))]]=>⟨a,b,c,d,⟨t,n,s⟩,u⟩
 | _=>⟨0,0,0,0,Vl.zero,false⟩
def lC(p:List (List AV)):List Eg:=p.map f2Z
theorem lB(ks:List Eg):lC (QW ks)=ks:=by
 unfold lC QW;rw[b2Z];exact(b5n fun e _=>rfl).trans (c7N _)
def Nb:List Eg->Hp
 | []=>[(2, .box [.nil 8])]
 |k::ks=>[(2, .box [.sl 11 8 0 (k::ks).length]),(11, .list 8 (ZM (k::ks)))]
theorem d6S{ks:List Eg}(h:ks≠[]):Nb ks=[(2, .box [.sl 11 8 0 ks.length]),(11, .list 8 (ZM ks))]:=by
 cases ks with
 |nil=>exact absurd rfl h
 |cons k ks=>rfl
theorem d7S(l:List Eg):∀x∈ZM l,∀y∈x,y.flat=true:=by
 intro x hx y hy;obtain⟨e,_,rfl⟩:=a0E.1 hx;simp only[Eg.cells,a5E,b1E,or_false]at hy
 rcases hy with rfl|rfl|rfl|rfl|rfl|rfl|rfl|rfl<;>rfl
theorem d8S{j:Nat}{S:List Eg->Prop}{r:AV}{K:Hp}(h:f8v j S r K):(∀id o,Vm.look K id=some o->o.Zf=false/\o.flat)/\r.flat=true:=by
 obtain⟨ks,_,⟨_,rfl,rfl⟩|⟨_,rfl,rfl⟩⟩:=h
 ·exact⟨fun id o h=>(by cases h),rfl⟩
 ·refine⟨fun id o ho=>?_,rfl⟩;simp only[Vm.look]at ho;split at ho
  ·cases ho;exact⟨rfl,d7S ks⟩
  ·cases ho
theorem d9S{f:FuncId}{caps:List IV}{T4:List (List AV)->List AV->Prop}{S:List (List AV)->Prop}(hi:ox prog f caps T4 S)(ZY:XV prog f=true)
 (hp:∀pre x,T4 pre x->∃ks k,pre=QW ks/\x=Ia k/\ks.length<2^32):
 Mr prog true Gt [.nil 8, .fn f [] (caps.map Z3.val)] [] (f8v 11 fun ks=>S (QW ks)):=by
 refine b9Y _ f6s (by simp) (by decide) (fun x H' h=>d8S h) ?_;simp-dsimp[a7k];refine b7Y [4] [5,10] 990 [(2, .ptr 2 0),(6, .fn f [] (caps.map Z3.val))] (fun p=>∃ks,p=QW ks) (fun p=>Nb (lC p)) hi ?_ (by simp) ZY (by decide) (by simp[lC,Nb]) (by simp) ?_ ⟨[],rfl⟩ ?_ ?_
 ·simp-dsimp[lC,Nb]
 ·intro pre x hx;obtain⟨ks,k,_,rfl,_⟩:=hp pre x hx;rfl
 ·rintro vs _ x ⟨ks,rfl⟩ hx;obtain⟨ks',k,WQ,rfl,hlen⟩:=hp _ x hx
  have WQ:ks=ks':=by have:=congrArg lC WQ;rwa [lB,lB]at this
  subst WQ
  have hkr:QW ks++[Ia k]=QW (ks++[k]):=by simp[QW]
  refine⟨⟨ks++[k],hkr⟩,?_⟩;rw[hkr,lB,lB,d6S (by simp:ks++[k]≠[])]
  cases ks with
  |nil=>
   simp-dsimp[LR,LQ,UF,St.set_mk,Ia,Nb,XU,Eg.av,Eg.cells];rfl
  |cons k0 ks=>
   simp-dsimp[LR,LQ,UF,St.set_mk,Ia,Nb,XU,Eg.av,Eg.cells];simp only[a4S]at hlen;refine⟨by omega,by omega,by simp[ZM,Eg.cells]⟩
 ·rintro vs _ ⟨ks,rfl⟩ hS;rw[lB]
  cases ks with
  |nil=>
   simp-dsimp[Nb,XU];exact⟨[2,990],_,_,⟨_,hS, .inl ⟨rfl,rfl,rfl⟩⟩,by simp-dsimp⟩
  |cons k0 ks=>
   simp-dsimp[Nb,XU];exact⟨[2,990],_,_,⟨_,hS, .inr ⟨by simp,rfl,rfl⟩⟩,by simp-dsimp⟩
theorem d0T{f:FuncId}{caps:List IV}{T4:List (List AV)->List AV->Prop}{S:List (List AV)->Prop}(hi:ox prog f caps T4 S)(ZY:XV prog f=true)
 (hp:∀pre x,T4 pre x->∃ks k,pre=QW ks/\x=Ia k/\ks.length<2^32):
 Mr prog true GG [.fn f [] (caps.map Z3.val)] [] (f8v 11 fun ks=>S (QW ks)):=by
 refine b9Y _ f6m (by simp) (by decide) (fun x H' h=>d8S h) ?_;simp-dsimp[a7j];refine b0Z (d9S hi ZY hp) ?_ (by simp) ?_ ?_
 ·simp
 ·intro x H' h id o ho;simp-dsimp;obtain⟨ks,hS,⟨rfl,rfl,rfl⟩|⟨ZV,rfl,rfl⟩⟩:=h
  ·cases ho
  ·simp only[Vm.look]at ho;split at ho
   ·omega
   ·cases ho
 ·rintro x H' ⟨ks,hS,⟨rfl,rfl,rfl⟩|⟨ZV,rfl,rfl⟩⟩
  ·simp-dsimp;exact⟨[2],_,_,⟨_,hS, .inl ⟨rfl,rfl,rfl⟩⟩,by simp-dsimp⟩
  ·simp-dsimp;exact⟨[2],_,_,⟨_,hS, .inr ⟨ZV,rfl,rfl⟩⟩,by simp-dsimp⟩
def Nx(S:Eg->Prop)(es:List Eg)(m:Eg):Prop:=S m\/(m.Z4≠m.to/\m∈es)
theorem d3v{κ:Type}(S:Eg->Prop)(F:κ->List Eg)(ks:List κ):UC S F ks=Nx S (ks.flatMap F):=by
 funext m;unfold UC Nx;simp[a2O]
theorem d4v(S:Eg->Prop)(f:Nat->List Eg)(i:Nat):XL S f (i+1)=Nx (XL S f i) (f i):=by
 funext m
 refine propext ⟨fun g=>?_,fun g=>?_⟩
 ·rcases g with g|⟨h1,j,hj,hm⟩
  ·exact .inl (.inl g)
  ·rcases b5j j i with g|g
   ·exact .inl (.inr ⟨h1,j,g,hm⟩)
   ·have:j=i:=by omega
    subst this;exact .inr ⟨h1,hm⟩
 ·rcases g with(g|⟨h1,j,hj,hm⟩)|⟨h1,hm⟩
  ·exact .inl g
  ·exact .inr ⟨h1,j,by omega,hm⟩
  ·exact .inr ⟨h1,i,by omega,hm⟩
theorem d5v(S:Eg->Prop):Nx S []=S:=by funext m;unfold Nx;simp
def Hs.T3(h:Hs):Prop:=h.events.length<=100/\h.order.length<=100
def Da(h:Hs)(j:Nat):List Eg:=((h.order.filter (Ur j)).map Ins.key).flatMap (wwK h j)
def HG(h:Hs)(i:Nat):List Eg:=(h.events[i]?).elim [] (SC h)
section
variable{h:Hs}
theorem d6v(hw:Zo h){e:Ev}(he:e∈h.events)(hk:e.kind=3):Se h e.table e.key:=by
 obtain⟨i,hi⟩:=a9B he;exact(c4i hw hi hk).1
theorem d7v(hw:Zo h){o:Ins}(ho:o∈h.order):Se h o.table o.key:=by
 obtain⟨i,hi⟩:=a9B ho;obtain⟨t,ht⟩:=Zr (c3i hw hi).2.2;obtain⟨e,he,hk⟩:=c0W (c2W hw ho (a6y ht)).2;obtain⟨k3,_,g1,g2⟩:=mR hk;rw[<-g1, <-g2];exact d6v hw he k3
theorem d8v(hw:Zo h){o:Ins}(ho:o∈h.order):CM h o.table o.key=o.ZU:=by
 unfold CM;rw[b9y (c6W hw) ho (mS.2 ⟨rfl,rfl⟩)]
theorem d9v(hw:Zo h){o:Ins}(ho:o∈h.order){m:Eg}:m∈wwK h o.table o.key↔m∈Sf o:=by
 unfold wwK;rw[mem_range,a8N];have LL:=a3B hw (table:=o.table) (k:=o.key);rw[d8v hw ho]at LL;rw[LL];constructor
 ·rintro⟨j,hj,hm⟩;unfold Ig at hm;rw[LL]at hm;split at hm
  ·rename_i h2;obtain⟨i,rfl⟩:∃i,j=i+2:=⟨j-2,by omega⟩;rw[a4S,a5O]at hj;obtain⟨a,ha⟩:∃a,o.ZU[i]? =some a:=Zr (by omega);obtain⟨b,hb⟩:∃b,o.ZU[i+1]? =some b:=Zr (by omega);rw[show i+2-1=i+1 from rfl,a5J,a5J,a1C,a1C,ha,hb]at hm
   exact⟨i,a,b,ha,hb,by simpa using hm⟩
  ·cases hm
 ·rintro⟨i,a,b,ha,hb,rfl⟩;refine⟨i+2,?_,?_⟩
  ·rw[a4S,a5O];have:=(a5y.1 hb).1;omega
  ·unfold Ig;rw[LL,if_pos (by omega),show i+2-1=i+1 from rfl,a5J,a5J,a1C,a1C,ha,hb];simp
theorem d0w(hw:Zo h){m:Eg}:(∃j,j<h.tables.length/\m∈Da h j)↔m∈h.order.flatMap Sf:=by
 rw[a2O];constructor
 ·rintro⟨j,_,hm⟩;unfold Da at hm;rw[a2O]at hm;obtain⟨k,hk,hm⟩:=hm;obtain⟨o,ho,rfl⟩:=a0E.1 hk;rw[a2E]at ho
  have ht:o.table=j:=by simpa[Ur]using ho.2
  exact⟨o,ho.1,(d9v hw ho.1).1 (by rw[ht];exact hm)⟩
 ·rintro⟨o,ho,hm⟩;obtain⟨h0,t,ht,_⟩:=d7v hw ho;refine⟨o.table.toNat,(a5y.1 ht).1,?_⟩;unfold Da;rw[a2O]
  have hn:((o.table.toNat:Nat):Int)=o.table:=by omega
  exact⟨o.key,a0E.2 ⟨o,a2E.2 ⟨ho,by simp[Ur,hn]⟩,rfl⟩,by rw[hn];exact(d9v hw ho).2 hm⟩
theorem d1w{m:Eg}:(∃i,i<h.events.length/\m∈HG h i)↔m∈h.events.flatMap (SC h):=by
 rw[a2O];constructor
 ·rintro⟨i,hi,hm⟩;obtain⟨e,he⟩:=Zr hi;unfold HG at hm;rw[he]at hm;exact⟨e,a6y he,hm⟩
 ·rintro⟨e,he,hm⟩;obtain⟨i,hi⟩:=a9B he;refine⟨i,(a5y.1 hi).1,?_⟩;unfold HG;rw[hi];exact hm
theorem d2w(hw:Zo h)(m:Eg):XL (XL (fun _=>False) (Da h) h.tables.length) (HG h) h.events.length m↔m∈XS h:=by
 rw[a6N hw];unfold XL ML;rw[d0w hw,d1w,a9E];constructor
 ·rintro((h1|⟨h1,h2⟩)|⟨h1,h2⟩)
  ·exact h1.elim
  ·exact⟨.inl h2,h1⟩
  ·exact⟨.inr h2,h1⟩
 ·rintro⟨h1|h1,h2⟩
  ·exact .inl (.inr ⟨h2,h1⟩)
  ·exact .inr ⟨h2,h1⟩
structure g9P (h:Hs) (m:Eg):Prop where
 Z4:m.Z4∈Ye h.events
 to:m.to∈Ye h.events
 kind:1<=m.kind/\m.kind<=5
 key:Se h m.table m.key
 cur:m.Zw=true->m.kind=2\/m.kind=4
theorem d3w(hw:Zo h){e:Ev}(he:e∈h.events)(hk:e.kind=2):Se h e.table e.key:=by
 obtain⟨i,hi⟩:=a9B he;exact((MT hw hi).1.2.1 hk).1
theorem d4w(hw:Zo h){table:Int}{k:Vl}{i:Nat}{v:Vs}(hv:(Zu h.events h.order table k)[i]? =some v)(hi:0<i):v.txn∈Ye h.events:=(a1O hw hv hi).1
theorem d5w(hw:Zo h){table:Int}{k:Vl}{v:Vs}(hp:0<Yo h.events h.order table k v):v.txn∈Ye h.events:=by
 unfold Yo at hp;split at hp
 ·omega
 ·rcases oC (fun x:Vs=>decide (x.txn=v.txn)) (Zu h.events h.order table k)with⟨i,x,g1,g2,g3,_⟩|⟨_,g⟩
  ·rw[g3]at hp;rw[decide_eq_true_eq]at g2;rw[<-g2];exact d4w hw g1 (by omega)
  ·omega
theorem d6w(
 hw:Zo h) {m:Eg} (hm:m∈ML h):g9P h m:=by
 unfold ML at hm;rw[a9E,a2O,a2O]at hm
 rcases hm with⟨o,ho,hm⟩|⟨e,he,hm⟩
 ·obtain⟨i,a,b,ha,hb,rfl⟩:=a8N.1 hm;exact⟨mT (c2W hw ho (a6y ha)).1,mT (c2W hw ho (a6y hb)).1,by simp,d7v hw ho,fun h=>by cases h⟩
 ·unfold SC at hm;split at hm
  ·rename_i h5;have hc:=mT h5;split at hm
   ·rename_i k2;unfold LB at hm;rw[a9E]at hm
    rcases hm with hm|hm
    ·unfold IL at hm;split at hm
     ·rename_i hp;rw[a1B]at hm;subst hm;exact⟨d5w hw hp,hc,by simp,d3w hw he k2,fun _=> .inl rfl⟩
     ·cases hm
    ·unfold MN at hm;split at hm
     ·rename_i hp;rw[a1B]at hm;subst hm;obtain⟨v,hv⟩:∃v,(Zu h.events h.order e.table e.key)[(Yo h.events h.order e.table e.key e.Z4+1).toNat]? =some v:=Zr (by omega);refine⟨hc,?_,by simp,d3w hw he k2,fun _=> .inr rfl⟩;rw[hv];exact d4w hw hv (by omega)
     ·cases hm
   ·split at hm
    ·unfold HW at hm;rw[a2O]at hm;obtain⟨o,ho,hm⟩:=hm;unfold QD at hm;split at hm
     ·rename_i ht;unfold QE at hm;split at hm
      ·cases hm
      ·rw[mem_range]at hm;obtain⟨j,hj,hm⟩:=hm;unfold Qn at hm;split at hm
       ·rename_i LL
        have hj0:0<j:=by
         rcases Nat.eq_zero_or_pos j with g|g
         ·subst g;unfold Vh at LL;rw[if_pos (.inl (by decide))]at LL;cases LL
         ·exact g
        obtain⟨v,hv⟩:=Zr hj;have hcv:=d4w hw hv hj0
        have hk:Se h e.table o.key:=by rw[<-ht];exact d7v hw ho
        rw[a1B,hv]at hm;split at hm
        ·subst hm;exact⟨hcv,hc,by simp,hk,fun h=>by cases h⟩
        ·subst hm;exact⟨hc,hcv,by simp,hk,fun h=>by cases h⟩
       ·cases hm
     ·cases hm
    ·cases hm
  ·cases hm
theorem d7w(hw:Zo h)(Xs:h.Rg){t:Int}(ht:t∈Ye h.events):1<=t/\t<2^63:=by
 unfold Ye at ht;obtain⟨e,he,rfl⟩:=a0E.1 ht;have hm:=(a2E.1 he).1;exact⟨c4W hw hm,(Xs e hm).2⟩
theorem d8w(hw:Zo h)(Xs:h.Rg){m:Eg}(hm:m∈ML h):m.D:=by
 obtain⟨h1,h2,h3,h4,_⟩:=d6w hw hm;have g1:=d7w hw Xs h1;have g2:=d7w hw Xs h2;have g3:=a0O hw h4;exact⟨a9N h4,by omega,by omega,by omega,by omega⟩
theorem d9w(h:Hs):Ri (XS h):=by
 by_cases hw:Zo h
 ·unfold XS;rw[if_pos hw];exact c7l (fun x hx=>by cases hx) (fun x hx=>a9N (d6w hw hx).key) c2y
 ·rw[Dw hw];exact c2y
theorem Ho{α β:Type}{f:α->List β}{B:Nat}:∀{l:List α},(∀x,x∈l->(f x).length<=B)->(l.flatMap f).length<=l.length*B
 | [],_=>by simp
 |x::r,h=>by
  rw[b0m,a7J,a4S,a4N,d1T];have h1:=h x a4E
  have h2:=Ho (l:=r) fun y hy=>h y (a9C _ hy)
  omega
theorem d1x(
 hw:Zo h) (hm:h.T3):(ML h).length<=2^28:=by
 unfold ML;rw[a7J]
 have h1:(h.order.flatMap Sf).length<=h.order.length*100:=Ho fun o ho=>by
  have:=c3W hw ho;unfold Sf;rw[a5O,List.length_zip];have:=hm.1;omega
 have h2:(h.events.flatMap (SC h)).length<=h.events.length*20000:=Ho fun e _=>by
  unfold SC;split
  ·split
   ·unfold LB IL MN;rw[a7J]
    split<;>split<;>simp
   ·split
    ·unfold HW
     have:=Ho (f:=QD h e) (B:=200) (l:=h.order) fun o _=>by
      unfold QD;split
      ·unfold QE;split
       ·simp
       ·have:=Ho (f:=Qn h e o.key (Yo h.events h.order e.table o.key (VF e.refs o.key))) (B:=1) (l:=a7I (Zu h.events h.order e.table o.key).length) fun j _=>by
         unfold Qn
         split<;>simp
        rw[c3E]at this;have:=om hw e.table o.key;have:=hm.1;omega
      ·simp
     have:=a0G 200 hm.2;omega
    ·simp
  ·simp
 have:=a0G 100 hm.2;have:=a0G 20000 hm.1;omega
end
def Db(l:List Int):List Value->Option (List IV)
 | [.int .i64 t]=>if t∈l then some [ci 1]else none
 | _=>none
theorem b3z:Db []=fun _=>none:=by
 funext q;unfold Db;split
 ·rw[if_neg (by simp)]
 ·rfl
theorem b4z(l:List Int)(t:Int):ZH (Db l) [.int .i64 t] (some [ci 1])=Db (l++[t]):=by
 funext q
 simp only[ZH];split
 ·rename_i h;subst h;simp only[Db];rw[if_pos (by simp)]
 ·rename_i ZV;unfold Db;split
  ·rename_i u
   by_cases hu:u∈l
   ·rw[if_pos hu,if_pos (by simp[hu])]
   ·rw[if_neg hu,if_neg];intro g
    rcases a9E.1 g with g|g
    ·exact hu g
    ·rw[a1B.1 g]at ZV;exact ZV rfl
  ·rfl
theorem b5z(l:List Int)(t:Int):Nz [.iv (.v (.int .i64 0))] false false (Db l [Value.int .i64 t])=vi (if t∈l then 1 else 0):=by
 simp only[Db]
 split<;>rfl
theorem b6z{h:Hs}(ZY:h.Ok)(hm:h.T3)(hw:¬Zo h):ZX prog true XD [h.av] [] (.sl 2 8 0 0) [(2, .list 8 [])]:=by
 have hR:=c8N ZY (by have:=hm.1;omega) hw;refine e0x 2 8 [] Fy (by simp) (by decide) (by simp) ?_;simp-dsimp[a0j,Hs.av];refine Y6 hR rfl (by simp[Hs.av]) (by simp[Hs.av]) (by simp) (by simp) ?_;simp-dsimp
noncomputable abbrev grL(S:Eg->Prop)(x:Value):Hp:=[(18, .map HJ (gE S)),(991, .gh ZT [x] [.mpr 18])]
theorem b7z{h:Hs}(Ny:h.order.length<2^62)(i:Nat)(x:Value)(hc:∀k,(Zu h.events h.order i k).length<2^42)(S:Eg->Prop):
 ZX prog false Lp [.iv (X8 h x),vi i] (grL S x) (.Zp []) (grL (Nx S (Da h i)) x):=by
 have:=(d5m Ny i x hc S).Zl (Ren.Xe [(1001,18),(1002,991)]) rfl;rw[d3v]at this;exact this
theorem b8z{h:Hs}(x:Value)(e:Ev)(Y8:HK h.events)(hc:(Zu h.events h.order e.table e.key).length<2^42)(S:Eg->Prop):
 ZX prog false Ln [.iv (X8 h x),e.av] (grL S x) (.Zp []) (grL (Nx S (LB h e)) x):=by
 have hs:=c6Z x e Y8 hc S;rw[d3v,Ev.Z5,show[()].flatMap (fun _:Unit=>LB h e)=LB h e by simp]at hs;rw[Ev.Z5];exact hs.Zl (Ren.Xe [(1001,18),(1002,991)]) rfl
theorem b9z(h:Hs)(e:Ev):HW h e=((h.order.filter (Ur e.table)).map Ins.key).flatMap (QE h e):=by
 unfold HW
 induction h.order with
 |nil=>rfl
 |cons o r ih=>
  rw[b0m,ih,List.filter_cons];unfold QD Ur
  by_cases ht:o.table=e.table
  ·rw[if_pos ht,if_pos (by simpa using ht),a0I,b0m]
  ·rw[if_neg ht,if_neg (by simpa using ht),b3H]
theorem b0A{h:Hs}(Ny:h.order.length<2^62)(x:Value)(e:Ev)(XJ:e.Ok)(Y8:HK h.events)(hc:∀k,(Zu h.events h.order e.table k).length<2^42)(S:Eg->Prop):
 ZX prog false Lm [.iv (X8 h x),e.av] (grL S x) (.Zp []) (grL (Nx S (HW h e)) x):=by
 have hs:=d5z Ny x e XJ Y8 hc S;rw[d3v, <-b9z,Ev.Z5]at hs;rw[Ev.Z5];exact hs.Zl (Ren.Xe [(1001,18),(1002,991)]) rfl
noncomputable def HI(h:Hs)(x:Value)(S:Eg->Prop)(fr:List (Nat×AV))(hp:Hp):St:=
 ⟨fr++[(4, .iv (X8 h x)),(1, .ptr 1 0),(3, .iv (Yv h.events h.order))],hp++[(1, .box [.iv (.Z6 1 (Za h.tables)), .iv (.Z6 22 (ZB h.events)), .iv (.Z6 5 (Zi h.order))]),(18, .map HJ (gE S)),(991, .gh ZT [x] [.mpr 18])]⟩
theorem b1A{h:Hs}(ZY:h.Ok)(Xs:h.Rg)(hm:h.T3)(hw:Zo h):ZX prog true XD [h.av] [] (.sl 11 8 0 (XS h).length) [(11, .list 8 (ZM (XS h)))]:=by
 refine(e1u (fun r K=>r= .sl 11 8 0 (XS h).length/\K=[(11, .list 8 (ZM (XS h)))]) Fy (by simp) (by decide) (fun x H' h=>?_) ?_).one (fun _ _ h=>h) (fun id o ho=>?_)
 ·obtain⟨rfl,rfl⟩:=h;refine⟨fun id o ho=>?_,rfl⟩;simp only[Vm.look]at ho;split at ho
  ·cases ho;exact⟨rfl,d7S _⟩
  ·cases ho
 rotate_left
 ·simp only[Vm.look]at ho;split at ho
  ·cases ho;rfl
  ·cases ho
 have Ny:h.order.length<2^62:=by have:=hm.2;omega
 have hc:∀table k,(Zu h.events h.order table k).length<2^42:=fun table k=>by
  have:=om hw table k;have:=hm.1;omega
 have Y8:=d2v hw
 have hR:=c9N ZY (by have:=hm.1;omega) hw Y8 fun o ho=>c3I (c3W hw ho) (by have:=hm.1;omega)
 simp-dsimp[a0j,Hs.av];refine Y6 hR rfl (by simp[Hs.av]) (by simp[Hs.av]) (by simp) (by simp) ?_;have hbk:∀{P:Program} {s:St} {K:St->AV->Prop},True:=trivial;simp-dsimp[Yv,YB];refine a8J (fun k s=>∃(x:Value) (i:Nat),i<=h.tables.length/\k=h.tables.length-i/\s=HI h x (XL (fun _=>False) (Da h) i) [(24,vi i),(23,vi h.tables.length)] []) ?_ ?_
 ·refine(a3Q (id:=20) (g:=991) (i:=4) (m:=18) (cs:=[.iv (.Z6 1 (Za h.tables)), .iv (.Z6 22 (ZB h.events)), .iv (.Z6 5 (Zi h.order)), .iv (Yv h.events h.order), .mpr 18]) (by simp[Yv]) rfl (by simp) (by decide)).to ?_;rintro s' ⟨x,rfl⟩
  refine(LeTo.le (D:=[20,2]) (s':=HI h x (XL (fun _=>False) (Da h) 0) [(24,vi (0:Nat)),(23,vi h.tables.length)] []) ?_).x ⟨_,x,0,c0t _,rfl,rfl⟩;simp-dsimp[HI,oh,d3O,X8,Yv,St.add,St.set_mk]
 ·rintro k s' ⟨x,i,hi,rfl,rfl⟩;simp-dsimp[HI,KF];refine⟨fun Z2=>?_,fun X9=>?_⟩
  ·have Nw:=Zk (n:=(i:Int)+1) (by have:=ZY.tables;omega);refine T6 (b7z Ny i x (fun k=>hc i k) (XL (fun _=>False) (Da h) i)) rfl (by simp) (by simp) (by simp) (by simp) (by simp) (by simp) (by simp) ?_;rw[<-d4v];simp-dsimp[Nw]
   exact⟨h.tables.length-(i+1),by omega,HI h x (XL (fun _=>False) (Da h) (i+1)) [(24,vi (i+1:Nat)),(23,vi h.tables.length)] [],LeTo.le (D:=[]) (by simp-dsimp[HI]),x,i+1,Z2,rfl,rfl⟩
  ·have XZ:i=h.tables.length:=by omega
   subst XZ;simp-dsimp
   have hlen:(Xo (Ye h.events)).length<=100:=by
    rw[KH];exact Nat.le_trans (d6k _) hm.1
   refine Y6 (b1y h.events h.order (by have:=hm.1;omega)) rfl (by simp) (by simp) (by simp) (by simp) ?_;simp-dsimp[YI];generalize hS0:XL (fun _=>False) (Da h) h.tables.length=S0;generalize QA:Xo (Ye h.events)=cl at hlen
   refine YJ [] [] cl.length (fun q=>HI h x S0 [(35,vi q),(34,vi cl.length),(33, .iv (.Z6 1 (YW cl))),(6, .mpr 31)] [(31, .map (false,[.i .i64],false) (Db (cl.take q)))]) (fun _=>True) ?_ trivial ?_
   ·simp-dsimp[HI,b3z]
   ·intro q hq _;simp-dsimp[HI,KE];refine⟨fun Z2=>?_,fun X9=>?_⟩
    ·obtain⟨t,ht⟩:=Zr Z2;have Nw:=Zk (n:=(q:Int)+1) (by omega)
     have YD:cl.take (q+1)=cl.take q++[t]:=by rw[a3I,ht];rfl
     simp-dsimp[ht,Nw,b4z,YD];exact Z2
    ·rw[a0z X9];refine YJ [31] [10] h.events.length (fun q=>HI h x (XL S0 (HG h) q) [(45,vi q),(44,vi h.events.length),(43, .iv (.Z6 22 (ZB h.events))),(6, .iv (.mp (false,[.i .i64],false) (Db cl)))] []) (fun _=>True) ?_ trivial ?_
     ·simp-dsimp[HI,oh]
     ·intro q hq _;simp-dsimp[HI,KD];refine⟨fun Z2=>?_,fun X9=>?_⟩
      ·obtain⟨e,he⟩:=Zr Z2;have Nw:=Zk (n:=(q:Int)+1) (by have:=hm.1;omega);have Qz:=d4v S0 (HG h) q
       have XM:HG h q=SC h e:=by unfold HG;rw[he];rfl
       have WA:e.txn∈cl↔Xd h.events e.txn=5:=by
        rw[<-QA];exact⟨fun g=>a0B hw ((c5e _ _).mem_iff.1 g),fun g=>(c5e _ _).mem_iff.2 (mT g)⟩
       have XJ:=ZY.ev e (a6y he);rw[XM]at Qz;rw[Qz];unfold SC
       by_cases h5:e.txn∈cl
       ·rw[if_pos (WA.1 h5)]
        by_cases k2:e.kind=2
        ·rw[if_pos k2];simp-dsimp[he,b5z,Ev.Z8 e,h5,k2];refine T6 (b8z x e Y8 (hc e.table e.key) (XL S0 (HG h) q)) rfl (by simp) (by simp[Ev.Z5,k2]) (by simp[Ev.Z5]) (by simp) (by simp) (by simp) (by simp) ?_;simp-dsimp[Nw];exact Z2
        ·rw[if_neg k2]
         by_cases k4:e.kind=4
         ·rw[if_pos k4];simp-dsimp[he,b5z,Ev.Z8 e,h5,k4];refine T6 (b0A Ny x e XJ Y8 (hc e.table) (XL S0 (HG h) q)) rfl (by simp) (by simp[Ev.Z5,k4]) (by simp[Ev.Z5]) (by simp) (by simp) (by simp) (by simp) ?_;simp-dsimp[Nw];exact Z2
         ·rw[if_neg k4,d5v];simp-dsimp[he,b5z,Ev.Z8 e,h5,k2,k4,Nw];exact Z2
       ·rw[if_neg fun g=>h5 (WA.2 g),d5v];simp-dsimp[he,b5z,Ev.Z8 e,h5,Nw];exact Z2
      ·have hqn:q=h.events.length:=by omega
       subst hqn
       have TN:∀m,XL S0 (HG h) h.events.length m↔m∈XS h:=fun m=>by rw[<-hS0];exact d2w hw m
       generalize XL S0 (HG h) h.events.length=SF at TN⊢
       have hSL:∀m,SF m->m∈ML h:=fun m g=>((a6N hw).1 ((TN m).1 g)).1
       have hEl:=d1x hw hm
       have VM:∀{ks:List Eg},ks.Nodup->(∀j∈ks,SF j)->ks.length<=(ML h).length:=fun g1 g2=>c8V g1 fun j hj=>hSL j (g2 j hj)
       simp-dsimp[X8];refine d1u (a4Q (t:=73) (g:=991) (i:=0) (x:=x) (y:= .mpr 18) (Z:=ZT) (vs:=[x]) (cs:=[.mpr 18]) (by simp) (by simp) rfl rfl) ?_;refine Y6 (d2S (gE SF)) rfl (by simp[St.set_mk]) (by simp) (by simp) (by simp[St.set_mk]) ?_;simp-dsimp[St.set_mk];refine b0Z (d0T (caps:=[.pt [.mp HJ (gE SF)]]) (d0S SF) d3S (fun pre x hp=>?_)) ?_ (by simp) ?_ ?_
       ·obtain⟨ks,k,h1,h2,h3,h4⟩:=hp;refine⟨ks,k,h1,h2,?_⟩;have:=VM h3 h4;rw[a7J]at this;omega
       ·simp
       ·rintro r K ⟨ks,hS,⟨rfl,rfl,rfl⟩|⟨ZV,rfl,rfl⟩⟩ id o ho
        ·cases ho
        ·simp only[Vm.look]at ho;split at ho
         ·rename_i e;subst e;refine⟨?_,by decide⟩;simp-dsimp
         ·cases ho
       ·rintro r K ⟨ks,⟨ks',Xg,Um,DE⟩,X4⟩
        have WQ:ks=ks':=by have:=congrArg lC Xg;rwa [lB,lB]at this
        subst WQ
        obtain⟨r0,QP,KC,hr3,hr4⟩:=d1i (l:=ks) (fun e he=>d8w hw Xs (hSL e ((DE e).1 he))) Um (by
         have:=VM Um fun j hj=>(DE j).1 hj
         omega)
        obtain rfl:r0=XS h:=c3l QP (d9w h) fun e=>by rw[KC,DE,TN]
        rcases X4 with⟨rfl,rfl,rfl⟩|⟨ZV,rfl,rfl⟩
        ·have hE:XS h=[]:=a2S hr3;rw[hE];simp-dsimp;refine ZN d2i (by simp) (by simp) ?_;simp-dsimp;refine⟨_,e0u (t:=2) (sz:=8) (id:=11) (by simp) (by simp) (by decide),[1,901,991],_,_,⟨rfl,rfl⟩,?_⟩;simp-dsimp[St.add,St.set_mk,ZM]
        ·simp-dsimp;have hr5:ZX prog false N7 [.sl 11 8 0 ks.length, .fn Ux [] []] [(11, .list 8 (ZM ks))] (.Zp []) [(11, .list 8 (ZM (XS h)))]:=hr4.Zl (Ren.Xe [(1000,11)]) rfl;refine T6 hr5 rfl (by simp) (by simp) (by simp) (by simp) (by simp) (by simp[Ob.le,Ob.dim,hr3]) (by simp) ?_;simp-dsimp;refine⟨_,Le.refl _,[1,901,991],_,_,⟨rfl,rfl⟩,?_⟩
         simp-dsimp[hr3]
theorem b2A{h:Hs}(ZY:h.Ok)(Xs:h.Rg)(hm:h.T3)(d:Nat):ZX prog true XD [h.av] [] (.sl d 8 0 (XS h).length) [(d, .list 8 (ZM (XS h)))]:=by
 by_cases hw:Zo h
 ·exact(b1A ZY Xs hm hw).fresh d (by simp[Hs.av,AV.WV,AV.Vo,AV.Va]) (fun ρ=>rfl)
 ·have:=(b6z ZY hm hw).fresh d (by simp[Hs.av,AV.WV,AV.Vo,AV.Va]) (fun ρ=>rfl);rw[Dw hw];exact this
theorem b5H{α:Type}{p:α->Bool}:∀{l:List α} {i:Nat} {e:α},(ZK i fun j=>∀x,l[j]? =some x->p x=false)->l[i]? =some e->p e=true->l.find? p=some e
 | [],_,_,_,h,_=>by cases h
 |x::r,0,e,_,h,hp=>by
  simp only[a0F,a3y]at h;subst h;exact List.find?_cons_of_pos hp
 |x::r,i+1,e,hq,h,hp=>by
  have hx:=hq 0 (by omega) x rfl;rw[List.find?_cons_of_neg (by simp[hx])];exact b5H (i:=i) (fun j hj y hy=>hq (j+1) (by omega) y hy) h hp
theorem b6H{α:Type}{p:α->Bool}{l:List α}{n:Nat}(hn:l.length<=n)(hq:ZK n fun j=>∀x,l[j]? =some x->p x=false):l.find? p=none:=by
 rw[b8O];intro x hx;obtain⟨j,hj⟩:=a9B hx;simp[hq j (Nat.lt_of_lt_of_le (a5y.1 hj).1 hn) x hj]
theorem b7H{h:Hs}(ZY:h.Ok)(txn:Int):ZX prog true Uy [h.av,vi txn] [] (vi (((h.events.find? (Ev.UP txn)).map Ev.level).getD 0)) []:=by
 refine YG ln (by simp) (by decide) rfl ?_;simp-dsimp[a6a,Hs.av]
 refine YJ [] [] h.events.length (fun i=>⟨[(5,vi i),(1,vi txn),(2, .ptr 2 0)],[(2, .box [.iv (.Z6 1 (Za h.tables)), .iv (.Z6 22 (ZB h.events)), .iv (.Z6 5 (Zi h.order))])]⟩)
  (fun i=>ZK i fun j=>∀e,h.events[j]? =some e->Ev.UP txn e=false) ?_ ?_ ?_
 ·simp-dsimp
 ·simp
 ·intro i hi hq;have XM:=ZY.events;simp-dsimp[Fk];refine⟨fun h2=>?_,fun h2=>?_⟩
  ·obtain⟨e,he⟩:=Zr h2;have hw:=Zk (n:=(i:Int)+1) (by omega)
   have hS:(e.kind=1/\e.txn=txn)->h.events.find? (Ev.UP txn)=some e:=fun hh=>b5H hq he (by simp[Ev.UP,hh])
   have hN:¬(e.kind=1/\e.txn=txn)->ZK (i+1) fun j=>∀e,h.events[j]? =some e->Ev.UP txn e=false:=fun hn=>hq.succ fun x hx=>by
    rw[he]at hx;cases hx
    cases hb:Ev.UP txn e with
    |false=>rfl
    |true=>exact(hn (by simpa[Ev.UP]using hb)).elim
   by_cases k1:e.kind=1
   ·by_cases k2:e.txn=txn
    ·have:=hS ⟨k1,k2⟩;simp-dsimp[he,k1,k2,this]
    ·have:=hN fun g=>k2 g.2
     simp-dsimp[he,k1,k2,hw];exact⟨h2,this⟩
   ·have:=hN fun g=>k1 g.1
    simp-dsimp[he,k1,hw];exact⟨h2,this⟩
  ·rw[b6H h2 hq];rfl
theorem b8H(a b:List Int)(hl:a.length<2^63):ZX prog true RE [.iv (YI a), .iv (YI b)] [] (vb (decide (a=b))) []:=by
 refine YG ll (by simp) (by decide) rfl ?_
 by_cases hlen:a.length=b.length
 ·have TG:(a.length:Int)=b.length:=by omega
  simp-dsimp[a5a,YI,TG];refine YJ [] [] b.length (fun i=>⟨[(5,vi i),(0, .iv (.Z6 1 (YW a))),(1, .iv (.Z6 1 (YW b)))],[]⟩) (fun i=>a.take i=b.take i) ?_ ?_ ?_
  ·simp-dsimp
  ·simp
  ·intro i hi hq;simp-dsimp[Fj,TG];refine⟨fun Z2=>?_,fun X9=>?_⟩
   ·obtain⟨x,hx⟩:∃x,a[i]? =some x:=Zr (by omega);obtain⟨y,hy⟩:=Zr Z2;have hw:=Zk (n:=(i:Int)+1) (by omega)
    have WG:∀{l:List Int} {z:Int},l[i]? =some z->l.take (i+1)=l.take i++[z]:=fun h=>by rw[a3I,h];rfl
    simp-dsimp[hx,hy,hw];refine⟨fun g e=>?_,fun g=>⟨Z2,by rw[WG hx,WG hy,hq,g]⟩⟩;subst e;rw[hx]at hy;cases hy;exact g rfl
   ·rw[a0z (by omega),a0z X9]at hq;simpa using hq
 ·have ZV:¬a=b:=fun g=>hlen (by rw[g])
  have TG:¬(a.length:Int)=b.length:=by omega
  simp-dsimp[a5a,YI,TG,ZV]
def Mv(es:List Ev)(table:Int)(k:Vl)(v:Vs):Option (List Vl):=if v=⟨0,0⟩then some []else(es.find? (Ev.Us v.txn table k v.n)).map Ev.row
theorem b9H{h:Hs}(hw:Zo h)(table:Int)(k:Vl)(v:Vs):Mv h.events table k v=WK h.events table k v:=by
 unfold Mv WK;rw[c5j hw]
theorem b0I{h:Hs}(ZY:h.Ok)(table:Int)(k:Vl)(v:Vs):ZX prog false KZ [h.av,vi table,k.av,v.av] [] (.Zp [.iv (.Z6 3 (Yp ((Mv h.events table k v).getD []))),vb (Mv h.events table k v).isSome]) []:=by
 refine FA (by decide) lj (by simp[Hs.av]) (by decide) ?_
 by_cases h0:v=⟨0,0⟩
 ·subst h0;simp-dsimp[a4f,Hs.av,Mv];exact⟨[4,6,7,8,10],by simp[PZ,AV.Xt,Yp]⟩
 ·have h1:v.txn=0->¬v.n=0:=fun h h'=>h0 (Vs.eq_iff.2 ⟨h,h'⟩)
  have h2:Mv h.events table k v=(h.events.find? (Ev.Us v.txn table k v.n)).map Ev.row:=by unfold Mv;rw[if_neg h0]
  rw[h2];simp-dsimp[a4f,Hs.av];refine⟨fun a b=>absurd b (h1 a),fun _=>?_⟩
  refine YJ [8,10] [12] h.events.length (fun i=>⟨[(11,vi i),(4, .ptr 4 0),(6, .ptr 6 0),(7, .ptr 7 0),(1,vi table)],[(7, .box (v.cells.map .iv)),(6, .box (k.cells.map .iv)),(4, .box (h.cells.map .iv))]⟩)
   (fun i=>ZK i fun j=>∀e,h.events[j]? =some e->Ev.Us v.txn table k v.n e=false) ?_ ?_ ?_
  ·simp-dsimp[Hs.cells]
  ·simp
  ·intro i hi hq;have XM:=ZY.events
   by_cases Zd:i<h.events.length
   ·obtain⟨e,he⟩:=Zr Zd;have hw:=Zk (n:=(i:Int)+1) (by omega)
    by_cases hb:Ev.Us v.txn table k v.n e=true
    ·rw[b5H hq he hb];obtain⟨g1,g2⟩:=c9i.1 hb;obtain⟨g3,g4,g5,g6⟩:=mR g1;have g7:=Vl.eq_iff.1 g6;simp-dsimp[V8,Hs.cells,he,Ev.Z8 e,g2,g3,g4,g5,g7];exact⟨fun _=>⟨[4,6,7,12],by simp[PZ,AV.Xt]⟩,fun hx=>absurd Zd (by omega)⟩
    ·have Qm:ZK (i+1) fun j=>∀e,h.events[j]? =some e->Ev.Us v.txn table k v.n e=false:=hq.succ fun x hx=>by
      rw[he]at hx;cases hx;simpa using hb
     have FE:¬((e.kind=3/\e.txn=v.txn/\e.table=table/\e.key.text=k.text/\e.key.n=k.n/\e.key.s=k.s)/\e.n=v.n):=by
      rw[<-Ev.Yg, <-c9i];exact hb
     by_cases k3:e.kind=3
     ·by_cases k4:e.txn=v.txn
      ·by_cases k5:e.n=v.n
       ·by_cases k6:e.table=table
        ·have k7:¬(e.key.text=k.text/\e.key.n=k.n/\e.key.s=k.s):=fun g=>FE ⟨⟨k3,k4,k6,g⟩,k5⟩
         simp-dsimp[V8,Hs.cells,he,Ev.Z8 e,hw,k3,k4,k5,k6];exact⟨fun _=>⟨fun a b c=>(k7 ⟨a,b,c⟩).elim,fun _=>⟨Zd,Qm⟩⟩,fun hx=>absurd Zd (by omega)⟩
        ·simp-dsimp[V8,Hs.cells,he,Ev.Z8 e,hw,k3,k4,k5,k6];exact⟨fun _=>⟨Zd,Qm⟩,fun hx=>absurd Zd (by omega)⟩
       ·simp-dsimp[V8,Hs.cells,he,Ev.Z8 e,hw,k3,k4,k5];exact⟨fun _=>⟨Zd,Qm⟩,fun hx=>absurd Zd (by omega)⟩
      ·simp-dsimp[V8,Hs.cells,he,Ev.Z8 e,hw,k3,k4];exact⟨fun _=>⟨Zd,Qm⟩,fun hx=>absurd Zd (by omega)⟩
     ·simp-dsimp[V8,Hs.cells,he,Ev.Z8 e,hw,k3];exact⟨fun _=>⟨Zd,Qm⟩,fun hx=>absurd Zd (by omega)⟩
   ·rw[b6H (by omega) hq]
    have VR:i=h.events.length:=by omega
    subst VR;simp-dsimp[V8,Hs.cells];exact⟨[4,6,7,8],by simp[PZ,AV.Xt,Yp]⟩
def W7(t:Int):List Int->Nat
 | []=>0
 |a::r=>if a<t then W7 t r+1 else 0
def Rw(l:List Int)(t:Int):List Int:=if l[W7 t l]? =some t then l else l.take (W7 t l)++t::l.drop (W7 t l)
def HT(out:List Int)(e:Ev):List Int:=if e.kind=1 then Rw out e.txn else out
def ZU(es:List Ev):List Int:=es.foldl HT []
theorem c7w{es:List Ev}{i:Nat}{e:Ev}(h:es[i]? =some e):ZU (es.take (i+1))=HT (ZU (es.take i)) e:=by
 unfold ZU;rw[a3I,h,a5U];rfl
theorem c8w(t:Int):∀l,W7 t l<=l.length
 | []=>a8F _
 |a::r=>by
  unfold W7;split
  ·have:=c8w t r;simp only[a4S];omega
  ·omega
theorem c9w{t:Int}:∀{l:List Int} {j:Nat} {x:Int},j<W7 t l->l[j]? =some x->x<t
 | [],j,x,h,_=>by simp[W7]at h
 |a::r,j,x,h,hx=>by
  unfold W7 at h;split at h
  ·rename_i ha
   cases j with
   |zero=>simp at hx;subst hx;exact ha
   |succ j=>exact c9w (l:=r) (j:=j) (by omega) (by simpa using hx)
  ·omega
theorem c0x{t:Int}:∀{l:List Int} {x:Int},l[W7 t l]? =some x->¬x<t
 | [],x,h=>by simp[W7]at h
 |a::r,x,h=>by
  unfold W7 at h;split at h
  ·exact c0x (by simpa using h)
  ·rename_i ha;simp at h;subst h;exact ha
theorem c1x(l:List Int)(t:Int):(Rw l t).length<=l.length+1:=by
 unfold Rw;split
 ·omega
 ·simp only[a7J,a4S,a3U,List.length_drop];have:=c8w t l;omega
theorem c2x:∀(es:List Ev),(ZU es).length<=es.length:=by
 have:∀(es:List Ev) (l:List Int),(es.foldl HT l).length<=l.length+es.length:=by
  intro es
  induction es with
  |nil=>intro l;simp
  |cons e es ih=>
   intro l;have:=ih (HT l e)
   have h2:(HT l e).length<=l.length+1:=by unfold HT;split;exact c1x _ _;omega
   simp only[b9j,a4S];omega
 intro es;have:=this es [];simpa[ZU]using this
theorem c3x{l:List Int}{t x:Int}:x∈Rw l t↔x∈l\/x=t:=by
 unfold Rw;split
 ·rename_i h;have:=a6y h;exact⟨.inl,fun h=>h.elim id fun e=>e▸this⟩
 ·simp only[a9E,a5E]
  have:x∈l↔x∈l.take (W7 t l)\/x∈l.drop (W7 t l):=by
   rw[<-a9E,List.take_append_drop]
  rw[this];constructor
  ·rintro(h|h|h)
   ·exact .inl (.inl h)
   ·exact .inr h
   ·exact .inl (.inr h)
  ·rintro((h|h)|h)
   ·exact .inl h
   ·exact .inr (.inr h)
   ·exact .inr (.inl h)
theorem c4x{es:List Ev}{t:Int}:t∈ZU es↔∃e∈es,e.kind=1/\e.txn=t:=by
 have key:∀(es:List Ev) (l:List Int),t∈es.foldl HT l↔t∈l\/∃e∈es,e.kind=1/\e.txn=t:=by
  intro es
  induction es with
  |nil=>intro l;simp
  |cons e es ih=>
   intro l;rw[b9j,ih];unfold HT;split
   ·rename_i hk;rw[c3x];constructor
    ·rintro((h|h)|⟨x,h1,h2⟩)
     ·exact .inl h
     ·exact .inr ⟨e,a4E,hk,h.symm⟩
     ·exact .inr ⟨x,a9C _ h1,h2⟩
    ·rintro(h|⟨x,h1,h2,h3⟩)
     ·exact .inl (.inl h)
     ·rcases a5E.1 h1 with rfl|h1
      ·exact .inl (.inr h3.symm)
      ·exact .inr ⟨x,h1,h2,h3⟩
   ·rename_i hk;constructor
    ·rintro(h|⟨x,h1,h2⟩)
     ·exact .inl h
     ·exact .inr ⟨x,a9C _ h1,h2⟩
    ·rintro(h|⟨x,h1,h2,h3⟩)
     ·exact .inl h
     ·rcases a5E.1 h1 with rfl|h1
      ·exact absurd h2 hk
      ·exact .inr ⟨x,h1,h2,h3⟩
 simpa[ZU]using key es []
theorem c5x{l:List Int}{t:Int}(h:l.Pairwise (· < ·)):(Rw l t).Pairwise (· < ·):=by
 unfold Rw;split
 ·exact h
 ·rename_i ZV
  have h1:∀x∈l.take (W7 t l),x<t:=by
   intro x hx;obtain⟨i,hi⟩:=List.mem_iff_getElem?.1 hx;rw[List.getElem?_take]at hi;split at hi
   ·rename_i Z2;exact c9w Z2 hi
   ·cases hi
  have h2:∀x∈l.drop (W7 t l),t<x:=by
   intro x hx;have hd:(l.drop (W7 t l)).Pairwise (· < ·):=h.sublist (d4l _ _)
   cases nU:l.drop (W7 t l)with
   |nil=>rw[nU]at hx;cases hx
   |cons y r=>
    have hy:l[W7 t l]? =some y:=by
     have:(l.drop (W7 t l))[0]? =some y:=by rw[nU];rfl
     simpa using this
    have h3:t<y:=by
     have:=c0x hy
     have:y≠t:=fun e=>ZV (by rw[hy,e])
     omega
    rw[nU]at hx hd
    rcases a5E.1 hx with rfl|hx
    ·exact h3
    ·have:=(b7K.1 hd).1 x hx;omega
  refine List.pairwise_append.2 ⟨h.sublist (d3l _ _),b7K.2 ⟨h2,h.sublist (d4l _ _)⟩,fun a ha b hb=>?_⟩
  rcases a5E.1 hb with rfl|hb
  ·exact h1 a ha
  ·have:=h1 a ha;have:=h2 b hb;omega
theorem c6x(es:List Ev):(ZU es).Pairwise (· < ·):=by
 have key:∀(es:List Ev) (l:List Int),l.Pairwise (· < ·)->(es.foldl HT l).Pairwise (· < ·):=by
  intro es
  induction es with
  |nil=>intro l h;exact h
  |cons e es ih=>
   intro l h;refine ih _ ?_;unfold HT;split
   ·exact c5x h
   ·exact h
 exact key es [] c2y
def VK(es:List Ev)(l:List Int):List Int:=l.filter fun t=>decide (Xd es t=5)
theorem c7x{es:List Ev}{l:List Int}{i:Nat}{t:Int}(h:l[i]? =some t):VK es (l.take (i+1))=if Xd es t=5 then VK es (l.take i)++[t]else VK es (l.take i):=by
 unfold VK;rw[a3I,h,b4j]
 by_cases hz:Xd es t=5<;>simp[hz]
theorem c8x(es:List Ev)(l:List Int):(VK es l).length<=l.length:=List.length_filter_le _ _
theorem c9x{h:Hs}(hw:Zo h):VK h.events (ZU h.events)=Xo (Ye h.events):=by
 have h1:(VK h.events (ZU h.events)).Pairwise (· < ·):=(c6x _).filter _
 have hm:∀t,t∈VK h.events (ZU h.events)↔t∈Ye h.events:=by
  intro t;unfold VK;rw[a2E,decide_eq_true_eq];constructor
  ·exact fun g=>mT g.2
  ·intro g;refine⟨?_,a0B hw g⟩;rw[c4x];unfold Ye at g;obtain⟨e,he,rfl⟩:=a0E.1 g;rw[a2E,decide_eq_true_eq]at he;obtain⟨i,hi⟩:=a9B he.1;have hf:=(MT hw hi).1.1;obtain⟨x,hx,hxt⟩:=hf.2.2.2.2.2 (by omega)
   have key:∀j,j<=h.events.length->∀x,x∈h.events.take j->∃y,y∈h.events/\y.kind=1/\y.txn=x.txn:=by
    intro j
    induction j with
    |zero=>intro _ x hx;simp at hx
    |succ j ih=>
     intro hj x hx;obtain⟨z,hz⟩:=Zr (l:=h.events) (i:=j) (by omega);rw[a3I,hz]at hx
     rcases a9E.1 hx with hx|hx
     ·exact ih (by omega) x hx
     ·simp only[Option.toList_some,a1B]at hx;subst hx
      by_cases k1:x.kind=1
      ·exact⟨x,a6y hz,k1,rfl⟩
      ·obtain⟨y,hy,hyt⟩:=(MT hw hz).1.1.2.2.2.2.2 k1;obtain⟨q,q1,q2,q3⟩:=ih (by omega) y hy;exact⟨q,q1,q2,q3.trans hyt⟩
   obtain⟨y,y1,y2,y3⟩:=key i (by have:=(a5y.1 hi).1;omega) x hx;exact⟨y,y1,y2,y3.trans hxt⟩
 have VM:(VK h.events (ZU h.events)).Nodup:=h1.imp fun h=>by omega
 have hp:(VK h.events (ZU h.events)).Perm (Ye h.events):=(c6P VM (a2B hw)).2 hm;have MR:(VK h.events (ZU h.events)).Perm (Xo (Ye h.events)):=hp.trans (c5e _ _).symm;refine MR.eq_of_pairwise (le:=fun a b:Int=>decide (a<=b)=true) ?_ ?_ ?_
 ·intro a b _ _ h1 h2;simp at h1 h2;omega
 ·exact h1.imp fun h=>by simp;omega
 ·exact c3S (by intro a b c;simp;omega) (by intro a b;simp;omega) _
theorem a5Q{h:Hs}(hlen:h.events.length<2^40):ZX prog false Gw [h.av] [] (.iv (YI (ZU h.events))) []:=by
 refine e6w [2,3] my (by simp[Hs.av]) (by decide) ?_;simp-dsimp[a6b,Hs.av,YI];refine YJ [2,3] [3,5,7,59] h.events.length (fun i=>⟨[(4,vi i),(3, .iv (.Z6 1 (YW (ZU (h.events.take i))))),(1, .ptr 1 0)],[(1, .box (h.cells.map .iv))]⟩) (fun _=>True) ?_ trivial ?_
 ·simp[Hs.cells,ZU,YW]
 ·intro i hi _
  by_cases Zd:i<h.events.length
  ·have f0O:¬h.events.length<=i:=by omega
   obtain⟨x,hx⟩:=Zr Zd;have hiw:=Zk (n:=(i:Int)+1) (by omega);have HU:=c7w hx;have QQ:=c2x (h.events.take i);rw[a3U]at QQ;generalize ZU (h.events.take i)=out at*
   by_cases hk:x.kind=1
   ·have HU:ZU (h.events.take (i+1))=Rw out x.txn:=by rw[HU];unfold HT;rw[if_pos hk]
    simp-dsimp[Sd,Hs.cells,f0O,hx,Ev.Z8 x,hk];intro _;have Ul:=c8w x.txn out;refine YJ [] [] (W7 x.txn out) (fun k=>⟨[(6,vi k),(5, .ptr 5 0),(4,vi i),(3, .iv (.Z6 1 (YW out))),(1, .ptr 1 0)],[(5, .box (x.cells.map .iv)),(1, .box (h.cells.map .iv))]⟩) (fun _=>True) ?_ trivial ?_
    ·simp[Hs.cells,Ev.Z8 x,hk]
    ·intro k Um _
     by_cases Vy:k<W7 x.txn out
     ·have PF:¬out.length<=k:=by omega
      obtain⟨y,hy⟩:∃y,out[k]? =some y:=Zr (by omega);have CA:=c9w Vy hy;have hkw:=Zk (n:=(k:Int)+1) (by omega);simp-dsimp[Rv,Hs.cells,Ev.Z8 x,hk,PF,hy,CA,hkw,Vy]
     ·have Dr:k=W7 x.txn out:=by omega
      subst Dr
      by_cases PF:out.length<=W7 x.txn out
      ·simp-dsimp[Rv,Hs.cells,Ev.Z8 x,hk,PF]
       have mw:W7 x.txn out=out.length:=by omega
       refine⟨by omega,by omega,by omega,by omega,by omega,by omega,by omega,by omega,Zd,hiw,?_⟩;rw[HU];unfold Rw;rw[if_neg (by rw[List.getElem?_eq_none PF];simp),mw,a6J,List.drop_length,a0z (by simp),a0z (by simp)];simp[YW]
      ·obtain⟨y,hy⟩:∃y,out[W7 x.txn out]? =some y:=Zr (by omega);have CA:=c0x hy
       by_cases hyt:y=x.txn
       ·simp-dsimp[Rv,Hs.cells,Ev.Z8 x,hk,PF,hy,CA,hyt];intro _;refine⟨Zd,hiw,?_⟩;rw[HU];unfold Rw;rw[if_pos (by rw[hy,hyt])]
       ·simp-dsimp[Rv,Hs.cells,Ev.Z8 x,hk,PF,hy,CA,hyt];intro _;refine⟨by omega,by omega,by omega,by omega,by omega,by omega,by omega,by omega,Zd,hiw,?_⟩;rw[HU];unfold Rw;rw[if_neg (by rw[hy];simpa using hyt),a0z (by simp;omega),a0z (l:=c5P (W7 x.txn out) (YW out)) (by simp)]
        simp[YW,c7D,d2Q]
   ·have HU:ZU (h.events.take (i+1))=out:=by rw[HU];unfold HT;rw[if_neg hk]
    simp-dsimp[Sd,Hs.cells,f0O,hx,Ev.Z8 x,hk,hiw,HU]
  ·have VR:i=h.events.length:=by omega
   subst VR;simp-dsimp[Sd,Hs.cells]
theorem a6Q{h:Hs}(ZY:h.Ok)(hlen:h.events.length<2^40):ZX prog false SQ [h.av] [] (.iv (YI (VK h.events (ZU h.events)))) []:=by
 have QQ:=c2x h.events;refine Te mv (by simp[Hs.av]) (by decide) ?_;simp-dsimp[a4a,Hs.av];refine Y6 (a5Q hlen) rfl (by simp[Hs.av]) (by simp[Hs.av]) (by simp) (by simp) ?_;generalize hT:ZU h.events=T at*;simp-dsimp[YI]
 refine YJ [2] [27] T.length (fun i=>⟨[(5,vi i),(4, .iv (.Z6 1 (YW T))),(3, .sl 3 1 0 (VK h.events (T.take i)).length),(1, .ptr 1 0)],
  [(3, .list 1 (YW (VK h.events (T.take i)))),(1, .box (h.cells.map .iv))]⟩) (fun _=>True) ?_ trivial ?_
 ·simp[Hs.cells,VK,YW]
 ·intro i hi _
  by_cases Zd:i<T.length
  ·obtain⟨t,ht⟩:=Zr Zd;have Sc:=Zk (n:=(i:Int)+1) (by omega);have YD:=c7x (es:=h.events) ht;have M6:=c8x h.events (T.take i);rw[a3U]at M6;rw[YD];generalize VK h.events (T.take i)=l0 at*;simp-dsimp[MK,Hs.cells,ht,YB];refine⟨fun _=>?_,fun hx=>absurd Zd (by omega)⟩;refine ZN (b0H ZY t) (by simp[Hs.av]) (by simp[Hs.av]) ?_
   by_cases h5:Xd h.events t=5
   ·simp-dsimp[ht,Sc,h5];exact⟨by omega,by omega,Zd,by simp[YW]⟩
   ·simp-dsimp[ht,Sc,h5];exact Zd
  ·have VR:i=T.length:=by omega
   subst VR;rw[a6J];simp-dsimp[MK,Hs.cells];have T7:a1V (VK h.events T).length (YW (VK h.events T))=YW (VK h.events T):=a0z (by simp[YW]);exact⟨[1,3],by simp[Yz,AV.Xt,T7,YI]⟩
theorem a7Q{h:Hs}(ZY:h.Ok)(hw:Zo h)(hlen:h.events.length<2^40):ZX prog false SQ [h.av] [] (.iv (YI (Xo (Ye h.events)))) []:=by
 rw[<-c9x hw];exact a6Q ZY hlen
def Hy(l:List Eg):Prop:=l.length<2^40/\∀x,x∈l->x.key.s.size<2^63
theorem c1t{l:List Eg}(hl:Hy l)(e:Eg):ZX prog false SO [.iv (ZW l),e.av] [] (.iv (ZW (YL l e))) []:=by
 refine Te di (by simp[Eg.av]) (by decide) ?_;have hlen:=hl.1
 by_cases zt:e.Z4=e.to
 ·have hp:YL l e=l:=by unfold YL;rw[if_pos zt]
  rw[hp];simp-dsimp[d1g,Eg.av,Eg.cells,zt];exact⟨[3],by simp-dsimp[Yz]⟩
 ·have hp:YL l e=UX e l:=by unfold YL;rw[if_neg zt]
  rw[hp];simp-dsimp[d1g,Eg.av,Eg.cells,zt];refine YJ [4] [] l.length (fun i=>⟨[(5,vi i),(3, .ptr 3 0),(0, .iv (ZW l))],[(3, .box (e.cells.map .iv))]⟩) (fun i=>∀j,j<i->∀x,l[j]? =some x->x.lss e=true) ?_ (fun j hj=>absurd hj (d6P _)) ?_
  ·simp-dsimp[Eg.cells]
  ·intro i hi hq
   rcases b5j i l.length with Z2|X9
   ·obtain⟨x,hx⟩:=Zr Z2;have hd:decide (i<l.length)=true:=decide_eq_true Z2;have Nw:=Zk (n:=(i:Int)+1) (by omega);have hL:=c9T x e (hl.2 x (a6y hx));simp-dsimp[Mb,ZW,Eg.cells,hx,hd];refine ZN hL (by simp[Eg.av,Eg.cells]) (by simp[Eg.av,Eg.cells]) ?_
    cases hs:x.lss e with
    |true=>
     simp-dsimp[hs,Nw];refine⟨Z2,fun j hj y hy=>?_⟩
     rcases b5j j i with g|g
     ·exact hq j g y hy
     ·have:j=i:=by omega
      subst this;rw[hx]at hy;cases hy;exact hs
    |false=>
     by_cases LK:x=e
     ·subst LK
      have EG:UX x l=l:=by
       have:=c9l (e:=x) (k:=i) hi hq (fun y hy=>by rw[hx]at hy;cases hy;exact hs);rw[this,if_pos hx]
      simp-dsimp[hs,hx,hd,Eg.cells];refine⟨[3],?_⟩;rw[EG];simp-dsimp[Yz];rfl
     ·have EG:UX e l=l.take i++e::l.drop i:=by
       have:=c9l (e:=e) (k:=i) hi hq (fun y hy=>by rw[hx]at hy;cases hy;exact hs);rw[this,if_neg (by rw[hx];simpa using LK)]
      have ZV:¬(x.Z4=e.Z4/\x.to=e.to/\x.kind=e.kind/\x.table=e.table/\x.key.text=e.key.text/\x.key.n=e.key.n/\x.key.s=e.key.s/\x.Zw=e.Zw):=fun g=>
       LK (Eg.eq_iff.2 ⟨g.1,g.2.1,g.2.2.1,g.2.2.2.1,Vl.eq_iff.2 ⟨g.2.2.2.2.1,g.2.2.2.2.2.1,g.2.2.2.2.2.2.1⟩,g.2.2.2.2.2.2.2⟩)
      simp-dsimp[hs,hx,hd,Eg.cells];refine⟨fun a1 a2 a3 a4 a5 a6 a7 a8=>(ZV ⟨a1,a2,a3,a4,a5,a6,a7,a8⟩).elim,fun _=>?_⟩;rw[Nat.min_eq_left hi];refine⟨hi,by omega,by omega,by omega,by omega,hi,by omega,by omega,[3,6,47],?_⟩;simp-dsimp[Yz,ZW];rw[EG,a0z (by simp;omega)];simp[ZM,Eg.cells,c7D,d2Q]
      exact a0z (by simp)
   ·obtain rfl:i=l.length:=by omega
    have EG:UX e l=l++[e]:=by
     have:=c9l (k:=l.length) (a8F _) hq (fun x hx=>by simp at hx);rw[this];simp
    simp-dsimp[Mb,ZW,Eg.cells];refine⟨by omega,by omega,by omega,by omega,by omega,by omega,[3,6,47],?_⟩;simp-dsimp[Yz];rw[EG,a0z (by simp)];simp[ZM,Eg.cells];exact a0z (by simp)
theorem c3K{α:Type}{p:α->Bool}:∀{l:List α},(∀(i j:Nat) (a b:α),l[i]? =some a->l[j]? =some b->p a=true->p b=true->i=j)->∀{e:α},e∈l->p e=true->l.filter p=[e]
 | [],_,_,he,_=>by cases he
 |x::r,hu,e,he,hp=>by
  by_cases hx:p x=true
  ·have hr:r.filter p=[]:=by
    rw[b3Z];intro y hy hpy;obtain⟨j,hj⟩:=a9B hy;have:=hu 0 (j+1) x y rfl hj hx hpy;omega
   rw[c4S hx,hr]
   rcases a5E.1 he with rfl|he
   ·rfl
   ·have:e∈r.filter p:=a2E.2 ⟨he,hp⟩;rw[hr]at this;cases this
  ·rw[c6S hx]
   rcases a5E.1 he with rfl|he
   ·exact(hx hp).elim
   ·exact c3K (fun i j a b ha hb=>by
     intro h1 h2;have:=hu (i+1) (j+1) a b ha hb h1 h2
     omega) he hp
def Tz(es:List Ev)(table:Int)(k:Vl)(o:Ins):List Vs:=o.ZU.map fun t=>⟨t,(Yk es t table k:Int)⟩
def Ub(es:List Ev)(os:List Ins)(table:Int)(k:Vl):List Vs:=⟨0,0⟩::((os.filter (Ins.Sj table k)).map (Tz es table k)).flatten
theorem c4K{es:List Ev}{os:List Ins}{table:Int}{k:Vl}{i:Nat}{o:Ins}(ho:os[i]? =some o):Ub es (os.take (i+1)) table k=if Ins.Sj table k o=true then Ub es (os.take i) table k++Tz es table k o else Ub es (os.take i) table k:=by
 unfold Ub;rw[show os.take (i+1)=os.take i++[o] by rw[a3I,ho];rfl,b4j]
 by_cases hb:Ins.Sj table k o=true
 ·rw[if_pos hb,c4S hb];simp
 ·rw[if_neg hb,c6S hb];simp
theorem c5K{h:Hs}(hw:Zo h)(table:Int)(k:Vl):Ub h.events h.order table k=Zu h.events h.order table k:=by
 rw[a3B hw];unfold Ub CM
 cases ho:Wr (Ins.Sj table k) h.order with
 |none=>
  have:h.order.filter (Ins.Sj table k)=[]:=by
   rw[b3Z];intro o hm;rw[d7i]at ho;rw[ho o hm];simp
  rw[this];rfl
 |some o=>
  obtain⟨h1,h2⟩:=MS ho;rw[c3K (c6W hw) h1 h2];simp[Tz]
theorem c6K{es:List Ev}{os:List Ins}{table:Int}{k:Vl}(i:Nat):(Ub es (os.take i) table k).length<=(Ub es os table k).length:=by
 unfold Ub;have h1:(os.take i).filter (Ins.Sj table k)<+:os.filter (Ins.Sj table k):=(List.take_prefix i os).filter _;obtain⟨r,hr⟩:=h1;rw[<-hr];simp
theorem c7K{h:Hs}(ZY:h.Ok)(hw:Zo h)(XM:h.events.length<2^40)(table:Int)(k:Vl):ZX prog false RG [h.av,vi table,k.av] [] (.iv (.Z6 2 (Vk (Zu h.events h.order table k)))) []:=by
 rw[<-c5K hw]
 have hlen:(Ub h.events h.order table k).length<=h.events.length+1:=by rw[c5K hw];exact om hw table k
 have h1d:=ZY.order;refine Te bV (by simp[Hs.av]) (by decide) ?_;simp-dsimp[a2a,Hs.av]
 refine YJ [6] [9] h.order.length (fun i=>⟨[(8,vi i),(7, .sl 13 2 0 (Ub h.events (h.order.take i) table k).length),(5, .ptr 5 0),(3, .ptr 3 0),(1,vi table)],
  [(13, .list 2 (Vk (Ub h.events (h.order.take i) table k))),(5, .box (k.cells.map .iv)),(3, .box (h.cells.map .iv))]⟩) (fun _=>True) ?_ trivial ?_
 ·simp[Hs.cells,Ub,Vk,Vs.cells]
 ·intro i hi _
  by_cases Zd:i<h.order.length
  ·obtain⟨o,ho⟩:=Zr Zd;have Sc:=Zk (n:=(i:Int)+1) (by omega);have YD:=c4K (es:=h.events) (table:=table) (k:=k) ho;have M6:=c6K (es:=h.events) (os:=h.order) (table:=table) (k:=k) (i+1)
   by_cases hb:Ins.Sj table k o=true
   ·rw[if_pos hb]at YD;rw[YD]at M6⊢;obtain⟨g1,g2⟩:=mS.1 hb;have g3:=Vl.eq_iff.1 g2;generalize Ub h.events (h.order.take i) table k=l0 at*;simp-dsimp[TA,Hs.cells,ho,Ins.Z8 o,g1,g3];refine⟨fun _=>?_,fun hx=>absurd Zd (by omega)⟩
    have QC:(Tz h.events table k o).length=o.ZU.length:=by simp[Tz]
    have Sl:=M6;rw[a7J,QC]at Sl
    refine YJ [] [63] o.ZU.length (fun j=>⟨[(10,vi j),(9, .ptr 9 0),(8,vi i),(7, .sl 13 2 0 (l0++(Tz h.events table k o).take j).length),(5, .ptr 5 0),(3, .ptr 3 0),(1,vi table)],
     [(9, .box (o.cells.map .iv)),(13, .list 2 (Vk (l0++(Tz h.events table k o).take j))),(5, .box (k.cells.map .iv)),(3, .box (h.cells.map .iv))]⟩) (fun _=>True) ?_ trivial ?_
    ·simp[Hs.cells,Ins.Z8 o,g1,g3]
    ·intro j hj _
     by_cases SJ:j<o.ZU.length
     ·obtain⟨t,ht⟩:=Zr SJ;have Mw:=Zk (n:=(j:Int)+1) (by omega)
      have hvt:(Tz h.events table k o)[j]? =some ⟨t,(Yk h.events t table k:Int)⟩:=by
       unfold Tz;rw[a1C,ht];rfl
      simp-dsimp[OY,Hs.cells,Ins.Z8 o,ht,YB];refine⟨fun _=>?_,fun hx=>absurd SJ (by omega)⟩;refine ZN (mn ZY h.events.length t table k) (by simp[Hs.av]) (by simp[Hs.av]) ?_;rw[a6J];rw[show a1V (j+1) (Tz h.events table k o)=a1V j (Tz h.events table k o)++[⟨t,(Yk h.events t table k:Int)⟩] by rw[a3I,hvt];rfl]
      generalize Tz h.events table k o=w at*;simp-dsimp[Ins.Z8 o,ht,Mw];exact⟨by omega,by omega,SJ,by omega,by simp[Vk,Vs.cells]⟩
     ·have nW:j=o.ZU.length:=by omega
      subst nW;rw[show a1V o.ZU.length (Tz h.events table k o)=Tz h.events table k o by rw[<-QC];exact a6J];simp-dsimp[OY,Hs.cells,Ins.Z8 o,Sc,Zd]
   ·rw[if_neg hb]at YD;rw[YD]
    have FE:¬(o.table=table/\o.key.text=k.text/\o.key.n=k.n/\o.key.s=k.s):=by
     intro g;exact hb (mS.2 ⟨g.1,Vl.eq_iff.2 g.2⟩)
    generalize Ub h.events (h.order.take i) table k=l0 at*
    by_cases g1:o.table=table
    ·simp-dsimp[TA,Hs.cells,ho,Ins.Z8 o,g1,Sc];refine⟨fun _=>⟨fun _=>Zd,fun a b c=>(FE ⟨g1,a,b,c⟩).elim⟩,fun hx=>absurd Zd (by omega)⟩
    ·simp-dsimp[TA,Hs.cells,ho,Ins.Z8 o,g1,Sc]
     exact fun hx=>absurd Zd (by omega)
  ·have VR:i=h.order.length:=by omega
   subst VR;rw[a6J];simp-dsimp[TA,Hs.cells];exact⟨[3,5,13],by simp[Yz,AV.Xt];exact a0z (by simp)⟩
theorem c8K{h:Hs}(ZY:h.Ok)(hw:Zo h)(XM:h.events.length<2^40)(table:Int)(k:Vl)(v:Vs):ZX prog true La [h.av,vi table,k.av,v.av] [] (vi (Yo h.events h.order table k v)) []:=by
 have hR:=b0I ZY table k v;rw[b9H hw]at hR;refine YG a2v (by simp[Hs.av]) (by decide) rfl ?_;simp-dsimp[a7c,Hs.av];refine Y6 hR rfl (by simp[Hs.av]) (by simp[Hs.av]) (by simp) (by simp) ?_;simp-dsimp;refine Y6 (c7K ZY hw XM table k) rfl (by simp[Hs.av]) (by simp[Hs.av]) (by simp) (by simp) ?_;have QA:=om hw table k;unfold Yo
 generalize Zu h.events h.order table k=l at*;generalize WK h.events table k v=r at*;simp-dsimp
 cases r with
 |none=>
  refine YJ [] [] 0 (fun i=>⟨[(12,vi i),(11, .iv (.Z6 2 (Vk l))),(10,vb false),(7, .ptr 7 0)],[(7, .box (v.cells.map .iv)),(6, .box (k.cells.map .iv)),(4, .box (h.cells.map .iv))]⟩) (fun _=>True) ?_ trivial ?_
  ·simp[Hs.cells]
  ·intro i hi _
   have Fq:i=0:=by omega
   subst Fq
   by_cases M6:0<l.length<;>simp-dsimp[Ra,M6]
 |some r=>
  refine YJ [] [] l.length (fun i=>⟨[(12,vi i),(11, .iv (.Z6 2 (Vk l))),(10,vb true),(7, .ptr 7 0)],[(7, .box (v.cells.map .iv)),(6, .box (k.cells.map .iv)),(4, .box (h.cells.map .iv))]⟩)
   (fun i=>ZK i fun j=>∀x,l[j]? =some x->decide (x.txn=v.txn)=false) ?_ ?_ ?_
  ·simp[Hs.cells]
  ·simp
  ·intro i hi hq
   by_cases Zd:i<l.length
   ·obtain⟨x,hx⟩:=Zr Zd;have Sc:=Zk (n:=(i:Int)+1) (by omega)
    by_cases he:x.txn=v.txn
    ·have:=Cq (p:=fun x:Vs=>decide (x.txn=v.txn)) hx (by simpa using he) hq;simp-dsimp[Ra,hx,he,this];exact Zd
    ·have Qm:ZK (i+1) fun j=>∀x,l[j]? =some x->decide (x.txn=v.txn)=false:=hq.succ fun y hy=>by
      rw[hx]at hy;cases hy;simpa using he
     simp-dsimp[Ra,hx,he,Sc];exact⟨fun _=>⟨Zd,by simpa using Qm⟩,fun hx=>absurd Zd (by omega)⟩
   ·have VR:i=l.length:=by omega
    have:=Di (p:=fun x:Vs=>decide (x.txn=v.txn)) (l:=l) fun x hx=>by
     obtain⟨j,hj⟩:=a9B hx;exact hq j (by have:=(a5y.1 hj).1;omega) x hj
    subst VR;simp-dsimp[Ra,this]
theorem c0y{h:Hs}(ZY:h.Ok)(hw:Zo h)(table:Int)(k:Vl)(v:Vs){p:Pd}(hp:p.Ok):ZX prog true Zb [h.av,vi table,k.av,v.av,p.av] [] (vb (Pz h.events table k p v)) []:=by
 have hR:=b0I ZY table k v;rw[b9H hw]at hR;have Ya:=e7s (table:=table) (k:=k) (v:=v) hw;have mZ:=b2G (table:=table) (k:=k) (v:=v) (d2v hw);unfold Pz;refine YG dh (by simp[Hs.av]) (by decide) rfl ?_;simp-dsimp[a5f,Hs.av,Pd.Z5];refine Y6 hR rfl (by simp[Hs.av]) (by simp[Hs.av]) (by simp) (by simp) ?_;generalize (WK h.events table k v).getD []=r at*
 simp-dsimp;refine ZN (c5T hp r (by omega) Ya) (by simp[Pd.Z5]) (by simp[Pd.Z5]) ?_
 cases r with
 |nil=>simp-dsimp
 |cons x r=>
  simp-dsimp
theorem c1y{h:Hs}(ZY:h.Ok)(hw:Zo h)(XM:h.events.length<2^40)(table:Int)(k:Vl)(W8:Int){p:Pd}(hp:p.Ok):ZX prog true K9 [h.av,vi table,k.av,vi W8,p.av] [] (vb (Vh h.events h.order table k W8 p)) []:=by
 have hH:=fun v=>c0y ZY hw table k v hp
 have hC:=c7K ZY hw XM table k;have QA:=om hw table k;refine YG dg (by simp[Hs.av]) (by decide) rfl ?_;unfold Vh;generalize Zu h.events h.order table k=l at*;simp-dsimp[a8c,Hs.av,Pd.Z5];refine Y6 hC rfl (by simp[Hs.av]) (by simp[Hs.av]) (by simp) (by simp) ?_
 by_cases h1:W8<1
 ·simp-dsimp[h1]
 ·by_cases h2:(l.length:Int)<=W8
  ·simp-dsimp[h1,h2]
  ·obtain⟨n,hn⟩:∃n:Nat,W8=(n:Int)+1:=⟨(W8-1).toNat,by omega⟩;subst hn;obtain⟨u,hu⟩:∃u,l[n]? =some u:=Zr (by omega);obtain⟨v,hv⟩:∃v,l[n+1]? =some v:=Zr (by omega);have Wp:=Zk (n:=(n:Int)) (by omega)
   have hg:(n:Int)+1=((n+1:Nat):Int):=by omega
   have df:(0:Int)<=(n:Int)+1:=by omega
   have WG:((n:Int)+1).toNat=n+1:=by omega
   simp-dsimp[h1,h2,Wp,hu,hv,df,WG,YB]
   repeat' refine And.intro ?_ ?_
   all_goals refine ZN (hH u) (by simp[Hs.av,Pd.Z5]) (by simp[Hs.av,Pd.Z5]) ?_
   all_goals simp-dsimp[hv,df,WG]
   all_goals refine ZN (hH v) (by simp[Hs.av,Pd.Z5]) (by simp[Hs.av,Pd.Z5]) ?_
   all_goals simp-dsimp
   all_goals (rw[hu,hv,decide_eq_false h1,decide_eq_false h2];rfl)
theorem d3y{l:List Eg}{e:Eg}(h:∀x,x∈l->x.key.s.size<2^63)(he:e.key.s.size<2^63):∀x,x∈YL l e->x.key.s.size<2^63:=by
 intro x hx;unfold YL at hx;split at hx
 ·exact h x hx
 ·rcases c4l.1 hx with rfl|hx
  ·exact he
  ·exact h x hx
theorem d4y(l:List Eg)(e:Eg):(YL l e).length<=l.length+1:=by
 have:=kF (es:=[e]) (l:=l);simpa using this
def rdR(e:Ev)(p:Int)(c:List Vs)(l:List Eg):List Eg:=(IL e p++MN e p c).foldl YL l
def nu(e:Ev)(p:Int)(c:List Vs)(l:List Eg):List Eg:=(MN e p c).foldl YL l
theorem d5y{e:Ev}{p:Int}{c:List Vs}{l:List Eg}(h:p<0):rdR e p c l=l:=by
 unfold rdR IL MN;rw[if_neg (by omega),if_neg (by omega)];rfl
theorem d6y{e:Ev}{p:Int}{c:List Vs}{l:List Eg}(h:0<p):rdR e p c l=nu e p c (YL l ⟨e.Z4.txn,e.txn,2,e.table,e.key,e.cur⟩):=by
 unfold rdR nu IL;rw[if_pos h];rfl
theorem d7y{e:Ev}{c:List Vs}{l:List Eg}:rdR e 0 c l=nu e 0 c l:=by
 unfold rdR nu IL;rw[if_neg (by omega)];rfl
theorem d8y{e:Ev}{p:Int}{c:List Vs}{l:List Eg}(h:¬(0<=p/\p+1<c.length/\e.Z4.txn≠e.txn)):nu e p c l=l:=by
 unfold nu MN;rw[if_neg h];rfl
theorem d9y{e:Ev}{p:Int}{c:List Vs}{l:List Eg}{v:Vs}(h:0<=p/\p+1<c.length/\e.Z4.txn≠e.txn)(hv:c[(p+1).toNat]? =some v):nu e p c l=YL l ⟨e.txn,v.txn,4,e.table,e.key,e.cur⟩:=by
 unfold nu MN;rw[if_pos h,hv];rfl
theorem d0z{h:Hs}(ZY:h.Ok)(hw:Zo h)(XM:h.events.length<2^40){e:Ev}(XJ:e.Ok){l:List Eg}(hl:Hy l)(MU:l.length<2^39):
 ZX prog false GD [h.av, .iv (ZW l),e.av] [] (.iv (ZW ((LB h e).foldl YL l))) []:=by
 have hC:=c7K ZY hw XM e.table e.key;have hP:=c8K ZY hw XM e.table e.key e.Z4;have Z2:=c5Z h.events h.order e.table e.key e.Z4;have QA:=om hw e.table e.key;have hR:(LB h e).foldl YL l=rdR e (Yo h.events h.order e.table e.key e.Z4) (Zu h.events h.order e.table e.key) l:=rfl;rw[hR];generalize Yo h.events h.order e.table e.key e.Z4=p at*
 generalize Zu h.events h.order e.table e.key=c at*;refine Te f4q (by simp[Hs.av]) (by decide) ?_;simp-dsimp[d2g,Hs.av,Ev.av,Ev.Z8 e];refine Y6 hC rfl (by simp[Hs.av]) (by simp[Hs.av]) (by simp) (by simp) ?_;simp-dsimp;refine ZN hP (by simp[Hs.av]) (by simp[Hs.av]) ?_;have Wp:IntKind.i64.wrap (p+1)=p+1:=Zk (by omega)
 by_cases h0:p<0
 ·rw[d5y h0];simp-dsimp[h0];exact⟨[3,5],by simp-dsimp[Yz]⟩
 ·have Nl:=XJ.key
  have f1T:∀(l1:List Eg),Hy l1->∀(v:Vs),c[(p+1).toNat]? =some v->ZX prog false SO [.iv (ZW l1), .agg [vi e.txn,vi v.txn,vi 4,vi e.table,vb e.key.text,vi e.key.n, .iv (.v (.string e.key.s)),vb e.cur]] [] (.iv (ZW (YL l1 ⟨e.txn,v.txn,4,e.table,e.key,e.cur⟩))) []:=
   fun l1 h1 v _=>c1t h1 ⟨e.txn,v.txn,4,e.table,e.key,e.cur⟩
  by_cases h1:0<p
  ·have hq:Hy (YL l ⟨e.Z4.txn,e.txn,2,e.table,e.key,e.cur⟩):=⟨by have:=d4y l ⟨e.Z4.txn,e.txn,2,e.table,e.key,e.cur⟩;omega,d3y hl.2 Nl⟩;have Qv:=c1t hl ⟨e.Z4.txn,e.txn,2,e.table,e.key,e.cur⟩;rw[d6y h1];generalize YL l ⟨e.Z4.txn,e.txn,2,e.table,e.key,e.cur⟩=l1 at*;simp-dsimp[h0,h1]
   refine Y6 Qv rfl (by simp[Eg.av,Eg.cells]) (by simp[Eg.av,Eg.cells]) (by simp) (by simp) ?_
   by_cases h2:p+1<c.length
   ·by_cases h3:e.Z4.txn=e.txn
    ·rw[d8y fun g=>g.2.2 h3];simp-dsimp[Wp,h2,h3];exact⟨[3,5],by simp-dsimp[Yz]⟩
    ·obtain⟨v,hv⟩:∃v,c[(p+1).toNat]? =some v:=Zr (by omega)
     have G8:∀hh,(Vk c)[(p+1).toNat]'hh=v.cells:=fun hh=>(a5y.1 (show(Vk c)[(p+1).toNat]? =some v.cells by rw[d9i,hv];rfl)).2
     have h4:0<=p+1:=by omega
     rw[d9y ⟨by omega,h2,h3⟩ hv];simp-dsimp[Wp,h2,h3,h4,G8,YB];refine Y6 (f1T l1 hq v hv) rfl (by simp) (by simp) (by simp) (by simp) ?_;simp-dsimp;exact⟨[3,5],by simp-dsimp[Yz]⟩
   ·rw[d8y fun g=>h2 g.2.1];simp-dsimp[Wp,h2];exact⟨[3,5],by simp-dsimp[Yz]⟩
  ·obtain rfl:p=0:=by omega
   have hwz:IntKind.i64.wrap 1=1:=Zk (by omega);rw[d7y];simp-dsimp
   by_cases h2:1<c.length
   ·have Qy:(1:Int)<c.length:=by omega
    have h2n:¬(c.length:Int)<=1:=by omega
    by_cases h3:e.Z4.txn=e.txn
    ·rw[d8y fun g=>g.2.2 h3];simp-dsimp[hwz,h2,Qy,h2n,h3];exact⟨[3,5],by simp-dsimp[Yz]⟩
    ·obtain⟨v,hv⟩:∃v,c[1]? =some v:=Zr h2
     have G8:∀hh,c[1]'hh=v:=fun hh=>(a5y.1 hv).2
     rw[d9y ⟨by omega,by omega,h3⟩ (by simpa using hv)];simp-dsimp[hwz,h2,Qy,h2n,h3,G8,YB];refine Y6 (f1T l hl v (by simpa using hv)) rfl (by simp) (by simp) (by simp) (by simp) ?_;simp-dsimp;exact⟨[3,5],by simp-dsimp[Yz]⟩
   ·have Qy:¬(1:Int)<c.length:=by omega
    rw[d8y (by omega)];simp-dsimp[hwz,h2,Qy]
    exact fun _=>⟨[3,5],by simp-dsimp[Yz]⟩
theorem c6U:∀{es l:List Eg},(∀x,x∈l->x.key.s.size<2^63)->(∀x,x∈es->x.key.s.size<2^63)->∀x,x∈es.foldl YL l->x.key.s.size<2^63
 | [],_,h,_=>h
 |e::es,l,h,he=>by
  rw[b9j];exact c6U (es:=es) (d3y h (he e a4E)) (fun x hx=>he x (a9C _ hx))
theorem c7U{es l:List Eg}(hl:Hy l)(he:∀x,x∈es->x.key.s.size<2^63)(hn:l.length+es.length<2^40):Hy (es.foldl YL l):=
 ⟨by have:=kF (es:=es) (l:=l);omega,c6U hl.2 he⟩
theorem c8U{h:Hs}{e:Ev}{k:Vl}{p:Int}{i:Nat}{x:Eg}(hx:x∈Qn h e k p i):x.key=k:=by
 unfold Qn at hx;split at hx
 ·rw[a1B]at hx
  split at hx<;>subst hx<;>rfl
 ·cases hx
theorem c9U{h:Hs}{e:Ev}{k:Vl}{x:Eg}(hx:x∈QE h e k):x.key=k:=by
 unfold QE at hx;split at hx
 ·cases hx
 ·obtain⟨j,_,hj⟩:=mem_range.1 hx;exact c8U hj
theorem c0V{h:Hs}(ZY:h.Ok){e:Ev}{o:Ins}(ho:o∈h.order){x:Eg}(hx:x∈QD h e o):x.key.s.size<2^63:=by
 unfold QD at hx;split at hx
 ·rw[c9U hx];exact ZY.Cd o ho
 ·cases hx
theorem c1V(h:Hs)(e:Ev)(k:Vl)(p:Int)(i:Nat):(Qn h e k p i).length<=1:=by
 unfold Qn;split<;>simp
theorem c2V{h:Hs}(hw:Zo h)(hm:h.T3)(e:Ev)(o:Ins):(QD h e o).length<=200:=by
 unfold QD;split
 ·unfold QE;split
  ·simp
  ·have:=Ho (f:=Qn h e o.key (Yo h.events h.order e.table o.key (VF e.refs o.key))) (B:=1) (l:=a7I (Zu h.events h.order e.table o.key).length) fun j _=>c1V ..
   rw[c3E]at this;have:=om hw e.table o.key;have:=hm.1;omega
 ·simp
def PQ(h:Hs)(e:Ev)(l:List Eg)(i:Nat):List Eg:=((h.order.take i).flatMap (QD h e)).foldl YL l
theorem c3V{h:Hs}{e:Ev}{l:List Eg}{i:Nat}{o:Ins}(ho:h.order[i]? =some o):PQ h e l (i+1)=(QD h e o).foldl YL (PQ h e l i):=by
 unfold PQ;rw[show h.order.take (i+1)=h.order.take i++[o] by rw[a3I,ho];rfl,c7B,a5U];simp
def Hn(h:Hs)(e:Ev)(k:Vl)(p:Int)(l:List Eg)(j:Nat):List Eg:=((a7I j).flatMap (Qn h e k p)).foldl YL l
theorem c4V(h:Hs)(e:Ev)(k:Vl)(p:Int)(l:List Eg)(j:Nat):Hn h e k p l (j+1)=(Qn h e k p j).foldl YL (Hn h e k p l j):=by
 unfold Hn;rw[List.range_succ,c7B,a5U];simp
theorem c5V(h:Hs)(e:Ev)(k:Vl)(p:Int)(l:List Eg):Hn h e k p l 1=l:=by
 rw[c4V]
 have:Qn h e k p 0=[]:=by
  have hc:Vh h.events h.order e.table k ((0:Nat):Int) e.pred=false:=by
   unfold Vh;exact if_pos (.inl (by decide))
  unfold Qn;rw[hc];rfl
 rw[this];rfl
theorem c6V{l:List Rf}{q:Nat}{r:Rf}(hr:l[q]? =some r)(k:Vl):VF (l.take (q+1)) k=if r.key=k then r.Z4 else VF (l.take q) k:=by
 unfold VF;rw[show l.take (q+1)=l.take q++[r] by rw[a3I,hr];rfl,MX]
 by_cases hk:r.key=k
 ·rw[if_pos (by simpa using hk),if_pos hk];rfl
 ·rw[if_neg (by simpa using hk),if_neg hk]
theorem c7V{h:Hs}(ZY:h.Ok)(hw:Zo h)(hm:h.T3){e:Ev}(XJ:e.Ok){l:List Eg}(hl:Hy l)(MU:l.length<2^38):
 ZX prog false GC [h.av, .iv (ZW l),e.av] [] (.iv (ZW ((HW h e).foldl YL l))) []:=by
 have XM:h.events.length<2^40:=by have:=hm.1;omega
 have hE:(HW h e).foldl YL l=PQ h e l h.order.length:=by unfold HW PQ;rw[a6J]
 rw[hE];refine Te f5f (by simp[Hs.av]) (by decide) ?_;simp-dsimp[d3g,Hs.av,Ev.av,Ev.Z8 e]
 refine YJ [6] [8,9] h.order.length (fun i=>⟨[(7,vi i),(5, .ptr 5 0),(3, .ptr 3 0),(1, .iv (ZW (PQ h e l i)))],
  [(5, .box (e.cells.map .iv)),(3, .box [.iv (.Z6 1 (Za h.tables)), .iv (.Z6 22 (ZB h.events)), .iv (.Z6 5 (Zi h.order))])]⟩) (fun _=>True) ?_ trivial ?_
 ·simp-dsimp[Ev.Z8 e,PQ]
 ·intro i hi _
  rcases b5j i h.order.length with Z2|X9
  ·obtain⟨o,ho⟩:=Zr Z2;have hd:decide (i<h.order.length)=true:=decide_eq_true Z2;have Nw:=Zk (n:=(i:Int)+1) (by have:=hm.2;omega);have hom:=a6y ho
   have hLi:Hy (PQ h e l i):=c7U hl (fun x hx=>by
    rw[a2O]at hx;obtain⟨o',XI,hx⟩:=hx
    exact c0V ZY (List.mem_of_mem_take XI) hx) (by
    have:=Ho (f:=QD h e) (B:=200) (l:=h.order.take i) fun o' _=>c2V hw hm e o'
    have h2:(h.order.take i).length<=100:=by rw[a3U];have:=hm.2;omega
    have:=a0G 200 h2
    omega)
   have hLn:(PQ h e l i).length<2^39:=by
    have h1:=kF (es:=(h.order.take i).flatMap (QD h e)) (l:=l)
    have:=Ho (f:=QD h e) (B:=200) (l:=h.order.take i) fun o' _=>c2V hw hm e o'
    have h2:(h.order.take i).length<=100:=by rw[a3U];have:=hm.2;omega
    have:=a0G 200 h2
    show(((h.order.take i).flatMap (QD h e)).foldl YL l).length<2^39
    omega
   have Zm:=c3V (e:=e) (l:=l) ho
   by_cases ht:o.table=e.table
   ·simp-dsimp[RQ,ho,hd,Ins.Z8 o,Ev.Z8 e,ht,YB]
    refine YJ [] [] e.refs.length (fun q=>⟨[(10,vi q),(9, .ptr 9 0),(8, .ptr 8 0),(7,vi i),(5, .ptr 5 0),(3, .ptr 3 0),(1, .iv (ZW (PQ h e l i)))],
     [(9, .box ((VF (e.refs.take q) o.key).cells.map .iv)),(8, .box (o.cells.map .iv)),(5, .box (e.cells.map .iv)),(3, .box [.iv (.Z6 1 (Za h.tables)), .iv (.Z6 22 (ZB h.events)), .iv (.Z6 5 (Zi h.order))])]⟩) (fun _=>True) ?_ trivial ?_
    ·simp-dsimp[Ev.Z8 e,Ins.Z8 o,ht,VF,d5i]
    ·intro q hq _
     rcases b5j q e.refs.length with Q7|g3J
     ·obtain⟨r,hr⟩:=Zr Q7;have hqd:decide (q<e.refs.length)=true:=decide_eq_true Q7;have Ij:=Zk (n:=(q:Int)+1) (by have:=XJ.refs;omega);have YD:=c6V hr o.key
      by_cases hk:r.key=o.key
      ·rw[if_pos hk]at YD;simp-dsimp[RP,Ev.Z8 e,Ins.Z8 o,hr,hqd,Rf.Z8 r,hk,Ij,YD,YB];exact Q7
      ·rw[if_neg hk]at YD
       have ZV:¬(r.key.text=o.key.text/\r.key.n=o.key.n/\r.key.s=o.key.s):=fun g=>hk (Vl.eq_iff.2 g)
       simp-dsimp[RP,Ev.Z8 e,Ins.Z8 o,hr,hqd,Rf.Z8 r,Ij,YD];exact⟨fun a b c=>(ZV ⟨a,b,c⟩).elim,fun _=>Q7⟩
     ·obtain rfl:q=e.refs.length:=by omega
      rw[a6J];simp-dsimp[RP,Ev.Z8 e,Ins.Z8 o];have hPl:=c8K ZY hw XM e.table o.key (VF e.refs o.key);have hCh:=c7K ZY hw XM e.table o.key;have QA:=om hw e.table o.key;have hcp:=b4G h.events h.order e.table o.key
      have hCg:∀n:Int,ZX prog true K9 [h.av,vi e.table,o.key.av,vi n,e.pred.av] [] (vb (Vh h.events h.order e.table o.key n e.pred)) []:=fun n=>c1y ZY hw XM e.table o.key n XJ.pred
      refine ZN hPl (by simp[Hs.av,ht]) (by simp[Hs.av]) ?_
      have hO:QD h e o=QE h e o.key:=by unfold QD;rw[if_pos ht]
      rw[hO]at Zm;have hos:=ZY.Cd o hom
      by_cases UT:Yo h.events h.order e.table o.key (VF e.refs o.key)<0\/(VF e.refs o.key).txn=e.txn
      ·have hK:QE h e o.key=[]:=by unfold QE;rw[if_pos UT]
       rw[hK,b4Z]at Zm
       by_cases h1:(VF e.refs o.key).txn=e.txn
       ·simp-dsimp[h1,Nw,Zm];exact Z2
       ·have h0:=UT.resolve_right h1;simp-dsimp[h0,h1,Nw,Zm];exact Z2
      ·have h0:¬Yo h.events h.order e.table o.key (VF e.refs o.key)<0:=fun g=>UT (.inl g)
       have h1:¬(VF e.refs o.key).txn=e.txn:=fun g=>UT (.inr g)
       have hK:(QE h e o.key).foldl YL (PQ h e l i)=Hn h e o.key (Yo h.events h.order e.table o.key (VF e.refs o.key)) (PQ h e l i) (Zu h.events h.order e.table o.key).length:=by
        unfold QE Hn;rw[if_neg UT]
       rw[hK]at Zm;have WS:=c4V h e o.key (Yo h.events h.order e.table o.key (VF e.refs o.key)) (PQ h e l i);have PK:=c5V h e o.key (Yo h.events h.order e.table o.key (VF e.refs o.key)) (PQ h e l i)
       have UH:∀j:Nat,Qn h e o.key (Yo h.events h.order e.table o.key (VF e.refs o.key)) j=if Vh h.events h.order e.table o.key j e.pred=true then
        [if(j:Int)<=Yo h.events h.order e.table o.key (VF e.refs o.key)then⟨(((Zu h.events h.order e.table o.key)[j]?).getD ⟨0,0⟩).txn,e.txn,3,e.table,o.key,false⟩else⟨e.txn,(((Zu h.events h.order e.table o.key)[j]?).getD ⟨0,0⟩).txn,5,e.table,o.key,false⟩]else[]:=fun j=>rfl
       have hMj:∀j,j<=200->Hy (Hn h e o.key (Yo h.events h.order e.table o.key (VF e.refs o.key)) (PQ h e l i) j):=fun j hj=>c7U hLi (fun x hx=>by
        obtain⟨q,_,hx⟩:=mem_range.1 hx
        rw[c8U hx];exact hos) (by
        have:=Ho (f:=Qn h e o.key (Yo h.events h.order e.table o.key (VF e.refs o.key))) (B:=1) (l:=a7I j) fun q _=>c1V ..
        rw[c3E]at this
        omega)
       generalize Yo h.events h.order e.table o.key (VF e.refs o.key)=p at*;generalize Zu h.events h.order e.table o.key=c at*;simp-dsimp[h0,h1];refine Y6 hCh rfl (by simp[Hs.av,ht]) (by simp[Hs.av]) (by simp) (by simp) ?_;simp-dsimp
       refine YJ [] [] (c.length-1) (fun j=>⟨[(13,vi (j+1:Nat)),(12, .iv (.Z6 2 (Vk c))),(11,vi p),(9, .ptr 9 0),(8, .ptr 8 0),(7,vi i),(5, .ptr 5 0),(3, .ptr 3 0),(1, .iv (ZW (Hn h e o.key p (PQ h e l i) (j+1))))],
        [(9, .box ((VF e.refs o.key).cells.map .iv)),(8, .box (o.cells.map .iv)),(5, .box (e.cells.map .iv)),(3, .box [.iv (.Z6 1 (Za h.tables)), .iv (.Z6 22 (ZB h.events)), .iv (.Z6 5 (Zi h.order))])]⟩) (fun _=>True) ?_ trivial ?_
       ·simp-dsimp[Ev.Z8 e,Ins.Z8 o,PK]
       ·intro j hj _
        rcases b5j (j+1) c.length with Xf|Pu
        ·obtain⟨v,hv⟩:=Zr Xf;have Sx:decide ((j:Int)+1<c.length)=true:=decide_eq_true (by omega);have hjw:IntKind.i64.wrap ((j:Int)+1+1)=(j:Int)+1+1:=Zk (by have:=hm.1;omega);have Ii:=WS (j+1);have OJ:=UH (j+1);rw[hv]at OJ;simp-dsimp[OI,Ev.Z8 e,Ins.Z8 o,Sx];have hMM:=hMj (j+1) (by have:=hm.1;omega)
         refine ZN (hCg ((j:Int)+1)) (by simp[Hs.av,Pd.Z5,ht]) (by simp[Hs.av,Pd.Z5]) ?_
         have f8R:(((j+1:Nat):Int))=(j:Int)+1:=by omega
         rw[f8R]at OJ
         have WG:((j:Int)+1).toNat=j+1:=by omega
         have df:(0:Int)<=(j:Int)+1:=by omega
         cases Q6:Vh h.events h.order e.table o.key ((j:Int)+1) e.pred with
         |false=>
          rw[Q6,if_neg (by simp)]at OJ;rw[OJ,b4Z]at Ii;simp-dsimp[Q6,hjw,Ii];omega
         |true=>
          rw[Q6,if_pos rfl]at OJ
          by_cases hle:(j:Int)+1<=p
          ·rw[if_pos hle]at OJ;rw[OJ,b9j,b4Z]at Ii;have Qv:=c1t hMM ⟨v.txn,e.txn,3,e.table,o.key,false⟩;have Ec:YL (Hn h e o.key p (PQ h e l i) (j+1)) ⟨v.txn,e.txn,3,e.table,o.key,false⟩=Hn h e o.key p (PQ h e l i) (j+1+1):=Ii.symm;rw[Ec]at Qv;simp-dsimp[Q6,hle,hv,WG,df,YB]
           refine Y6 Qv rfl (by simp[Eg.av,Eg.cells,ht]) (by simp[Eg.av,Eg.cells]) (by simp) (by simp) ?_;simp-dsimp[hjw];omega
          ·rw[if_neg hle]at OJ;rw[OJ,b9j,b4Z]at Ii;have Qv:=c1t hMM ⟨e.txn,v.txn,5,e.table,o.key,false⟩;have Ec:YL (Hn h e o.key p (PQ h e l i) (j+1)) ⟨e.txn,v.txn,5,e.table,o.key,false⟩=Hn h e o.key p (PQ h e l i) (j+1+1):=Ii.symm;rw[Ec]at Qv;simp-dsimp[Q6,hle,hv,WG,df,YB]
           refine Y6 Qv rfl (by simp[Eg.av,Eg.cells,ht]) (by simp[Eg.av,Eg.cells]) (by simp) (by simp) ?_;simp-dsimp[hjw];omega
        ·have Sx:decide ((j:Int)+1<c.length)=false:=decide_eq_false (by omega)
         have SJ:j+1=c.length:=by omega
         rw[SJ];simp-dsimp[OI,Ev.Z8 e,Ins.Z8 o,Sx,Nw,Zm];exact Z2
   ·have hO:QD h e o=[]:=by unfold QD;rw[if_neg ht]
    rw[hO,b4Z]at Zm;simp-dsimp[RQ,ho,hd,Ins.Z8 o,Ev.Z8 e,ht,Nw,Zm];exact Z2
  ·obtain rfl:i=h.order.length:=by omega
   simp-dsimp[RQ];exact⟨[3,5],by simp-dsimp[Yz]⟩
end Go.Rt
end
