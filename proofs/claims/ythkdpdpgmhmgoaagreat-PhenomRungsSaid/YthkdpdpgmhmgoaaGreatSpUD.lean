/- Contracts of functions of the program, and what they lean on. Conditions: those of each theorem. -/
import Derived.Test.YthkdpdpgmhmgoaaGreatSpUC

set_option linter.unusedVariables false
set_option linter.unusedSimpArgs false
set_option maxHeartbeats 64000000
set_option maxRecDepth 100000
open Bool renaming and_eq_true->a4C,false_eq_true->a5M,or_eq_true->b6L,eq_iff_iff->b3S,not_eq_true'->b9O
open Function renaming comp_def->b8q
open Int renaming add_assoc->c8U
open List renaming mem_of_getElem?->a8y,ext_getElem?->b9j,getElem?_eq_none->b4T,getElem?_set->b6T,length_set->d9z,map->d2g,mem_map->a3E,mem_cons->a2E,take_add_one->a1J,getElem?_eq_some_iff->a7y,take->a7U,take_of_length_le->a2B,replicate->a6R,getElem?_of_mem->a9B,getElem?_take->a5N,take_length->a7I,length_take->a7S,drop_of_length_le->c4V,append_nil->b2y,mem_cons_self->a8C,length_cons->a3O,mem_cons_of_mem->a2C,getElem?_cons_succ->a2I,map_cons->a0G,range->a0I,mem_singleton->a2z,mem_range->a4U,length_pos_iff->a6I,mem_append->a1E,drop_length->c4b,length_tail->d3v,dropLast_concat_getLast->c0R,ne_nil_of_mem->b9Q,filter_cons_of_pos->c7B,filter_cons_of_neg->b2R,length_eq_zero_iff->a9U,getElem?_map->a0C,filter_congr->d8p,filter_cons->a0V,mem_filter->a0F,filter_filter->d8o,getElem?_cons_zero->a9E,take_append_drop->c6Z
open Nat renaming zero_le->c4u
open Option renaming map_eq_some_iff->a1S,map_some->a4G
open Option.some renaming injEq->a5y
open Prod.mk renaming injEq->a6J

section
namespace Go.Rt
open Go.Vm
theorem e9l(l:List Int)(hl:l.length<2^63)(x:Int):ZU prog true HF [.iv (XJ l),vi x] [] (vi (Wm l x)) []:=by
 refine YD f4f (by simp) (by decide) rfl ?_;simp-dsimp[JZ,XJ]
 refine YZ [] [] l.length (fun i=>⟨[(8,vi i),(7,vi l.length),(0, .iv (.Z6 1 (Yj l))),(1,vi x)],[]⟩)
  (fun i=>ZH i fun j=>∀y,l[j]? =some y->¬x=y) ?_ ?_ ?_
 ·simp-dsimp
 ·exact Tn
 ·intro i hi hq;simp-dsimp[Fy];refine⟨fun ZV=>?_,fun X3=>?_⟩
  ·obtain⟨e,he⟩:=Zw ZV;have hw:=Zo (n:=(i:Int)+1) (by omega);simp-dsimp[he,hw];refine⟨fun g=>?_,fun g=>⟨ZV,hq.succ fun y hy=>by rw[he]at hy;cases hy;exact g⟩⟩;rw[c4C he g hq]
  ·rw[c5C (EY X3 hq)]
theorem e0m(l:List Int)(hl:l.length<2^62)(x:Int):ZU prog true QH [.iv (XJ l),vi x] [] (vi (Wm l x)) []:=by
 refine YD f0a (by simp) (by decide) rfl ?_;simp-dsimp[e9d,XJ]
 refine YZ [] [] l.length (fun i=>⟨[(5,vi i),(0, .iv (.Z6 1 (Yj l))),(1,vi x)],[]⟩)
  (fun i=>ZH i fun j=>∀y,l[j]? =some y->¬x=y) ?_ ?_ ?_
 ·simp-dsimp
 ·exact Tn
 ·intro i hi hq;simp-dsimp[FA];refine⟨fun ZV=>?_,fun X3=>?_⟩
  ·obtain⟨e,he⟩:=Zw ZV;have hw:=Zo (n:=(i:Int)+1) (by omega);simp-dsimp[he,hw];refine⟨fun g=>?_,fun g=>⟨ZV,hq.succ fun y hy=>by rw[he]at hy;cases hy;exact fun h=>g h.symm⟩⟩;rw[c4C he g.symm hq]
  ·rw[c5C (EY X3 hq)]
theorem e1m(l:List Int)(hl:l.length<2^62)(x:Int):ZU prog true LV [.iv (XJ l),vi x] [] (vb (decide (x∈l))) []:=by
 refine YD f8d (by simp) (by decide) rfl ?_;simp-dsimp[J0];refine Zu (e9l l (by omega) x) (by simp) (by simp) ?_;simp-dsimp;rw[c3C]
theorem e2m(l:List Eg)(hl:l.length<2^62)(x:Int):ZU prog true Ma [.iv (Z5 l),vi x] [] (vb (decide (x∈l.map Eg.to))) []:=by
 refine YD e2Z (by simp) (by decide) rfl ?_;simp-dsimp[e8d,Z5]
 refine YZ [] [] l.length (fun i=>⟨[(5,vi i),(0, .iv (.Z6 8 (ZR l))),(1,vi x)],[]⟩)
  (fun i=>ZH i fun j=>∀y,l[j]? =some y->y.to≠x) ?_ ?_ ?_
 ·simp-dsimp
 ·exact Tn
 ·intro i hi hq;simp-dsimp[FB];refine⟨fun ZV=>?_,fun X3=>?_⟩
  ·obtain⟨e,he⟩:=Zw ZV;have hw:=Zo (n:=(i:Int)+1) (by omega);simp-dsimp[he,hw,Eg.cells];refine⟨fun g=>?_,fun g=>⟨ZV,hq.succ fun y hy=>by rw[he]at hy;cases hy;exact g⟩⟩;exact⟨e,a8y he,g⟩
  ·exact EY X3 hq
theorem e3m:XI prog RV=true:=by kernel_rfl
def Zg(ks:List Int)(e:Eg):Bool:=decide (e.kind∈ks)
theorem e4m(ks:List Int)(hl:ks.length<2^62)(e:Eg):ZU prog true RV [e.av, .iv (.pt [XJ ks])] [] (vb (Zg ks e)) []:=by
 refine YD f1e (by simp) (by decide) rfl ?_;simp-dsimp[a1n,Eg.av,Eg.cells];refine Zu (e1m ks hl e.kind) (by simp) (by simp) ?_;simp-dsimp[Zg]
theorem e5m(ks:List Int):Ng prog false T9 [.iv (XJ ks)] [] (fun r K=>r= .fn RV [] [.ptr 1 0]/\K=[(1, .box [.iv (XJ ks)])]):=by
 refine c3d _ f3a (by simp) (by decide) (fun x H' h=>by
  obtain⟨rfl,rfl⟩:=h;refine⟨fun id o ho=>?_,by simp⟩;simp only[Vm.look]at ho;split at ho
  ·cases ho;rfl
  ·cases ho) ?_
 simp-dsimp[Fz]
 try exact⟨[],_,_,⟨rfl,rfl⟩,by simp-dsimp⟩
theorem e6m(ks:List Int)(d:Nat):ZU prog false T9 [.iv (XJ ks)] [] (.fn RV [] [.ptr d 0]) [(d, .box [.iv (XJ ks)])]:=by
 have h:=((e5m ks).one (fun _ _ h=>h) (fun id o ho=>by
  simp only[Vm.look]at ho;split at ho
  ·cases ho;rfl
  ·cases ho)).Zk (Ren.swap 1 d) (by simp[AV.W7,AV.VM,AV.Vv,Ob.W7,XJ])
 have e:(Ren.swap 1 d).to 1=d:=by simp[Ren.swap,sn]
 simpa[Hp.Zk,AV.Zk,AV.V7,AV.V8,Ob.Zk,Z3.Zk,e]using h
def Ke(xs ys:List Eg)(i:Nat):Prop:=ys.length=xs.length/\∀k,k<xs.length->ys[k]? =if k<i\/xs.length-i<=k then xs[xs.length-1-k]? else xs[k]?
theorem c9Z{xs ys:List Eg}{i:Nat}(h:Ke xs ys i)(hi:xs.length<=2*i+1):ys=xs.reverse:=by
 refine b9j fun k=>?_
 by_cases hk:k<xs.length
 ·rw[h.2 k hk,List.getElem?_reverse hk]
  by_cases h1:k<i\/xs.length-i<=k
  ·rw[if_pos h1]
  ·rw[if_neg h1]
   have:k=xs.length-1-k:=by omega
   rw[<-this]
 ·rw[b4T (by have:=h.1;omega),b4T (by simp;omega)]
theorem d0a{xs ys:List Eg}{i:Nat}{a b:Eg}(h:Ke xs ys i)(hi:2*i+1<xs.length)(ha:ys[i]? =some a)(hb:ys[xs.length-1-i]? =some b):Ke xs ((ys.set i b).set (xs.length-1-i) a) (i+1):=by
 have hl:=h.1;have ha':=h.2 i (by omega);rw[ha,if_neg (by omega)]at ha';have XB:=h.2 (xs.length-1-i) (by omega);rw[hb,if_neg (by omega)]at XB;refine⟨by simp[hl],fun k hk=>?_⟩;rw[b6T,b6T];simp only[d9z]
 by_cases h1:xs.length-1-i=k
 ·subst h1;rw[if_pos rfl,if_pos (by omega),if_pos (by omega),ha']
  congr 1;omega
 ·rw[if_neg h1]
  by_cases h2:i=k
  ·subst h2;rw[if_pos rfl,if_pos (by omega),if_pos (by omega),XB]
  ·rw[if_neg h2,h.2 k hk]
   by_cases h3:k<i\/xs.length-i<=k
   ·rw[if_pos h3,if_pos (by omega)]
   ·rw[if_neg h3,if_neg (by omega)]
theorem d1a(ys:List Eg)(i:Nat)(b:Eg):(ZR ys).set i b.cells=ZR (ys.set i b):=by simp[ZR,List.map_set]
theorem d2a(ys:List Eg)(i:Nat)(b:Eg):(ZR ys).set i [ci b.ZX,ci b.to,ci b.kind,ci b.table,cb b.key.text,ci b.key.n, .v (.string b.key.s),cb b.ZN]=ZR (ys.set i b):=d1a ys i b
theorem d3a(xs:List Eg)(hl:xs.length<2^40):ZU prog false LN [.sl 1000 8 0 xs.length] [(1000, .list 8 (ZR xs))] (.Zp []) [(1000, .list 8 (ZR xs.reverse))]:=by
 refine sc e9B (by simp) (by decide) (by simp) rfl ?_;simp-dsimp[a2n];have hw0:=Zo (n:=(xs.length:Int)-1) (by omega)
 refine Fi (fun k s=>∃(i:Nat) (ys:List Eg),k=xs.length-i/\i<=xs.length/\Ke xs ys i/\s=⟨[(2,vi i),(3,vi (xs.length-1-i)),(0, .sl 1000 8 0 xs.length)],[(1000, .list 8 (ZR ys))]⟩)
  ⟨_,_,LeTo.le (D:=[]) (s':=⟨[(2,vi (0:Nat)),(3,vi (xs.length-1-(0:Nat))),(0, .sl 1000 8 0 xs.length)],[(1000, .list 8 (ZR xs))]⟩) ?_,0,xs,rfl,c4u _,⟨rfl,fun k hk=>?_⟩,rfl⟩ ?_
 ·simp[hw0]
 ·rw[if_neg (by omega)]
 ·rintro k s ⟨i,ys,rfl,hi,hr,rfl⟩
  by_cases ZV:2*i+1<xs.length
  ·have hc:(i:Int)<xs.length-1-i:=by omega
   obtain⟨a,ha⟩:∃a,ys[i]? =some a:=Zw (by rw[hr.1];omega);obtain⟨b,hb⟩:∃b,ys[xs.length-1-i]? =some b:=Zw (by rw[hr.1];omega)
   have hj:(xs.length:Int)-1-i=((xs.length-1-i:Nat):Int):=by omega
   have hs:=d0a hr ZV ha hb;have UY:=Zo (n:=(i:Int)+1) (by omega);have E4:=Zo (n:=((xs.length-1-i:Nat):Int)-1) (by omega)
   have Xo:i≠xs.length-1-i:=by omega
   rw[hj]at hc⊢;generalize IK:xs.length-1-i=j at*
   have D6:(ys.set i b)[j]? =some b:=by rw[b6T,if_neg Xo];exact hb
   simp-dsimp[MQ,hc,ha,hb,D6,UY,E4,hr.1,Eg.cells,d2a,Zc];refine⟨by omega,by omega,by omega,_,by omega,_,LeTo.le (D:=[]) (s':=⟨[(2,vi (i+1:Nat)),(3,vi (xs.length-1-(i+1:Nat))),(0, .sl 1000 8 0 xs.length)],[(1000, .list 8 (ZR ((ys.set i b).set j a)))]⟩) ?_,i+1,rfl,by omega,_,hs,rfl⟩
   have:(xs.length:Int)-1-(i+1:Nat)=(j:Int)-1:=by omega
   simp[this];omega
  ·have hc:¬(i:Int)<xs.length-1-i:=by omega
   simp-dsimp[MQ,hc];rw[c9Z hr (by omega)]
end Go.Rt
end

section
namespace Go.Vm
theorem b4v(D:List Nat)(hD:D.all (· <1000)=true):∀{s:St} {t j sz len:Nat},1000<=j->s.get t= .sl j sz 0 len->(s.ZM D).get t= .sl j sz 0 len:=by
 induction D with
 |nil=>intro s t j sz len _ h;exact h
 |cons i D ih=>
  intro s t j sz len hj h;simp only[List.all_cons,a4C,decide_eq_true_eq]at hD;exact ih hD.2 hj (e7p (by omega) h)
def EndMS(t id sz len:Nat)(H':Hp)(s:St):Prop:=s.get t= .sl id sz 0 len/\EndM H' s
attribute [simp] EndMS
theorem b5v{P:Program}{f:FuncId}{args:List AV}{H H':Hp}{n t id sz len:Nat}{c:Z9}(hf:Zz P f=some (n,c,[.tmp t]))(VF:1000<=id)
 (YQ:args.length<=n) (hn:n<=999) (UA:(H.map (·.1)).all (1000<= ·)=true) (Vr:((H++H').all fun p=> !p.2.Zl)=true)
 (h:X5 P c ⟨SG 0 args,H⟩ ⟨EndMS t id sz len H',fun _ _=>False,EndMS t id sz len H',fun _ _=>False⟩):ZU P false f args H (.sl id sz 0 len) H':=
 Ip hf YQ UA Vr (MA (SZ hn _ _ _ h) fun s h=>by
  obtain⟨D,g1,g2⟩:=a1L h.2.1 h.2.2.1 h.2.2.2
  exact⟨s.ZM D,[.sl id sz 0 len],QZ D g1 s,by simp[V4,b4v D g1 VF h.1],rfl,g2,fun h=>by cases h⟩)
@[simp]theorem f7i(caps:List IV):d2g (Z3.av∘Z3.val) caps=caps.map AV.iv:=by simp[b8q,Z3.av]
@[simp]theorem b6v(caps:List IV)(s:St)(fr:Bool)(ids:List Nat):d2g (s.arg fr ids∘AV.iv) caps=caps.map AV.iv:=by simp[b8q,St.arg,St.arg1]
end Go.Vm
namespace Go.Rt
open Go.Vm
theorem b7v(l:List Eg):∀x∈ZR l,∀y∈x,y.flat=true:=by
 intro x hx y hy;obtain⟨e,_,rfl⟩:=a3E.1 hx;simp only[Eg.cells,a2E,List.not_mem_nil,or_false]at hy
 rcases hy with rfl|rfl|rfl|rfl|rfl|rfl|rfl|rfl<;>rfl
theorem b8v(l:List Eg)(hl:l.length<2^62){g:FuncId}(caps:List IV)(ZY:XI prog g=true)(del:Eg->Bool)
 (hd:∀e,e∈l->ZU prog true g (e.av::caps.map .iv) [] (vb (del e)) []):
 ZU prog true HQ [.iv (Z5 l), .fn g [] (caps.map Z3.val)] [] (vi (S6 del l)) []:=by
 refine YD px (by simp) (by decide) rfl ?_;simp-dsimp[a4m,Z5];refine YZ [] [] l.length (fun i=>⟨[(8,vi i),(7,vi l.length),(0, .iv (.Z6 8 (ZR l))),(1, .fn g [] (caps.map Z3.val))],[]⟩) (fun i=>ZH i fun j=>∀e,l[j]? =some e->del e=false) ?_ Tn ?_
 ·simp-dsimp
 ·intro i hi hq;simp-dsimp[G9];refine⟨fun ZV=>?_,fun X3=>?_⟩
  ·obtain⟨e,he⟩:=Zw ZV;have hw:=Zo (n:=(i:Int)+1) (by omega);simp-dsimp[he,Eg.cells,Zc];refine⟨ZY,O8 (hd e (a8y he)) (by simp) (by simp[Eg.av,Eg.cells]) (by simp[Eg.av,Eg.cells]) ?_⟩
   cases h0:del e with
   |true=>
    have:=rO he h0 hq;simp-dsimp[this]
   |false=>
    simp-dsimp[hw];exact⟨ZV,ZH.succ hq fun y hy=>by rw[he]at hy;cases hy;exact h0⟩
  ·rw[Ef (EY X3 hq)]
def zE:Eg:=⟨0,0,0,0,⟨false,0,⟨#[]⟩⟩,false⟩
def Ol(del:Eg->Bool)(l:List Eg):List Eg:=l.filter fun e=> !del e
theorem b9v(del:Eg->Bool)(l:List Eg):(Ol del l).length<=l.length:=List.length_filter_le _ _
theorem b0w{del:Eg->Bool}{l:List Eg}{j:Nat}{e:Eg}(he:l[j]? =some e):Ol del (l.take (j+1))=Ol del (l.take j)++if del e then[]else[e]:=by
 unfold Ol;rw[show l.take (j+1)=l.take j++[e] by rw[a1J,he];rfl,List.filter_append]
 congr 1
 cases h:del e<;>simp[h]
theorem b1w{del:Eg->Bool}{l:List Eg}(h:∀x,x∈l->del x=false):Ol del l=l:=by
 unfold Ol;rw[List.filter_eq_self]
 exact fun x hx=>by rw[h x hx];rfl
structure Oj (del:Eg->Bool) (l L:List Eg) (m j:Nat):Prop where
 len:L.length=l.length
 lt:m<j
 le:j<=l.length
 kept:L.take m=Ol del (l.take j)
 rest:∀k,j<=k->L[k]? =l[k]?
theorem Oj.skip{del:Eg->Bool}{l L:List Eg}{m j:Nat}{e:Eg}(h:Oj del l L m j)(he:l[j]? =some e)(hd:del e=true):Oj del l L m (j+1):=
 ⟨h.len,by have:=h.lt;omega,(a7y.1 he).1,by rw[h.kept,b0w he,hd];simp,fun k hk=>h.rest k (by omega)⟩
theorem Oj.keep{del:Eg->Bool}{l L:List Eg}{m j:Nat}{e:Eg}(h:Oj del l L m j)(he:l[j]? =some e)(hd:del e=false):Oj del l (L.set m e) (m+1) (j+1):=by
 have ZV:=h.lt;have hle:=h.le;have hL:=h.len;refine⟨by rw[d9z];exact h.len,by omega,(a7y.1 he).1,?_,fun k hk=>?_⟩
 ·rw[b0w he,hd, <-h.kept,a1J,List.getElem?_set_self (by omega),List.take_set_of_le (by omega)];rfl
 ·rw[List.getElem?_set_ne (by omega)];exact h.rest k (by omega)
theorem b2w(l:List Eg)(hl:l.length<2^40){g:FuncId}(caps:List IV)(ZY:XI prog g=true)(del:Eg->Bool)
 (hd:∀e,e∈l->ZU prog true g (e.av::caps.map .iv) [] (vb (del e)) []):
 ∃js:List Eg,(Ol del l++js).length=l.length/\ZU prog false Me [.sl 1000 8 0 l.length, .fn g [] (caps.map Z3.val)] [(1000, .list 8 (ZR l))] (.sl 1000 8 0 (Ol del l).length) [(1000, .list 8 (ZR (Ol del l++js)))]:=by
 have hI:=b8v l (by omega) caps ZY del hd;have XL:=b9v del l;have TL:a7U l.length (ZR l)=ZR l:=a2B (by simp)
 rcases c0C del l with⟨i,x,h1,h2,h3,h4⟩|⟨h1,h2⟩
 ·have Zb:=(a7y.1 h1).1;refine⟨a6R (l.length-(Ol del l).length) zE,by simp;omega,?_⟩;refine b5v G8 (by decide) (by simp) (by decide) (by simp) rfl ?_;simp-dsimp[a5l];refine Zu hI (by simp[Z5,TL]) (by simp) ?_;have hw0:=Zo (n:=(i:Int)+1) (by omega)
  have Mx:¬(i:Int)= -1:=by omega
  rw[h3];simp-dsimp[Mx,hw0]
  have hA:Oj del l l i (i+1):=by
   refine⟨rfl,by omega,by omega,?_,fun _ _=>rfl⟩;rw[b0w h1,h2,b1w]
   ·simp
   ·intro y hy;obtain⟨j,hj⟩:=a9B hy
    have WB:j<i:=by have:=(a7y.1 hj).1;simp at this;omega
    rw[a5N,if_pos WB]at hj;exact h4 j y WB hj
  refine Fi (fun k s=>∃(j m:Nat) (L:List Eg),k=l.length-j/\Oj del l L m j/\s=⟨[(6,vi j),(5,vi m),(0, .sl 1000 8 0 l.length),(1, .fn g [] (caps.map Z3.val))],[(1000, .list 8 (ZR L))]⟩)
   ⟨_,_,LeTo.le (D:=[4]) (s':=⟨[(6,vi (i+1:Nat)),(5,vi i),(0, .sl 1000 8 0 l.length),(1, .fn g [] (caps.map Z3.val))],[(1000, .list 8 (ZR l))]⟩) ?_,i+1,i,l,rfl,hA,rfl⟩ ?_
  ·simp
  ·rintro k s ⟨j,m,L,rfl,hA,rfl⟩;have hLl:=hA.len;have hml:=hA.lt;have RO:=hA.le;have htL:a7U l.length (ZR L)=ZR L:=a2B (by simp[hLl])
   by_cases hj:j<l.length
   ·obtain⟨e,he⟩:=Zw hj
    have heL:L[j]? =some e:=by rw[hA.rest j (Nat.le_refl _)];exact he
    obtain⟨u,hu⟩:∃u,L[m]? =some u:=Zw (by omega);have hw:=Zo (n:=(j:Int)+1) (by omega);have hwm:=Zo (n:=(m:Int)+1) (by omega)
    have hdj:decide (j<l.length)=true:=by simpa using hj
    simp-dsimp[Qb,hdj,heL,Eg.cells,Zc,hLl];refine⟨hj,ZY,O8 (hd e (a8y he)) (by simp) (by simp[Eg.av,Eg.cells]) (by simp[Eg.av,Eg.cells]) ?_⟩
    cases h0:del e with
    |true=>
     simp-dsimp[hw];refine⟨l.length-(j+1),by omega,_,LeTo.le (D:=[7]) (s':=⟨[(6,vi (j+1:Nat)),(5,vi m),(0, .sl 1000 8 0 l.length),(1, .fn g [] (caps.map Z3.val))],[(1000, .list 8 (ZR L))]⟩) ?_,j+1,rfl,m,L,hA.skip he h0,rfl⟩;simp
    |false=>
     have f8N:decide (m<l.length)=true:=by simp;omega
     simp-dsimp[hw,hwm,hu,Eg.cells,Zc,d2a,hLl,f8N];refine⟨by omega,l.length-(j+1),by omega,_,LeTo.le (D:=[7]) (s':=⟨[(6,vi (j+1:Nat)),(5,vi (m+1:Nat)),(0, .sl 1000 8 0 l.length),(1, .fn g [] (caps.map Z3.val))],[(1000, .list 8 (ZR (L.set m e)))]⟩) ?_,j+1,rfl,m+1,L.set m e,hA.keep he h0,rfl⟩;simp
   ·obtain rfl:j=l.length:=by omega
    have hk:=hA.kept;rw[a7I]at hk
    have hm:m=(Ol del l).length:=by rw[<-hk,a7S];omega
    have T3:(ZR L).take m++a6R (l.length-m) zE.cells++(ZR L).drop (m+(l.length-m))=ZR (Ol del l++a6R (l.length-(Ol del l).length) zE):=by
     rw[c4V (by simp;omega),b2y, <-hm];unfold ZR;rw[<-List.map_take,hk,List.map_append,List.map_replicate]
    simp-dsimp[Qb,hLl];refine⟨by omega,⟨by omega,by omega⟩,by omega,hm,?_⟩;rw[<-List.append_assoc];exact T3
 ·have Zt:Ol del l=l:=b1w h1;refine⟨[],by simp[Zt],?_⟩;rw[Zt,b2y];refine b5v G8 (by decide) (by simp) (by decide) (by simp) rfl ?_;simp-dsimp[a5l];refine Zu hI (by simp[Z5,TL]) (by simp) ?_;rw[h2];simp-dsimp
theorem b3w{l:List Eg}(h:l≠[])(hl:l.length<2^40)(d:Nat):ZU prog true Md [.iv (Z5 l)] [] (.sl d 8 0 l.length) [(d, .list 8 (ZR l))]:=by
 have hs:ZU prog true Md [.iv (Z5 l)] [] (.sl 5 8 0 (ZR l).length) [(5, .list 8 (ZR l))]:=by
  refine e0q 5 8 (ZR l) pw (by simp) (by decide) (b7v l) ?_
  have ZS:ZR l≠[]:=by simpa[ZR]using h
  simp-dsimp[a6l,Z5,ZS];omega
 rw[b7L]at hs;exact hs.fresh d (by simp[AV.W7,AV.VM,AV.Vv]) (fun ρ=>by simp[AV.Zk,AV.V7,AV.V8])
end Go.Rt
end

section
namespace Go.Rt
open Go.Vm
@[simp]def oe:=[wx 1 0,wb 2 false]
@[simp]def oa:=[y0 10 Tc,wm 3 10]
@[simp]def nZ:=[wm 11 3,wu 12 11]
@[simp]def nY:=[wb 2 false]
@[simp]def nX:=[ws 13 1 3,Y1 14 Ic 13,wm 4 14]
@[simp]def nW:=[wm 15 4,wu 16 15]
@[simp]def nV:=[wb 2 true]
@[simp]def nU:VT:=
 V1 18 YA 17<|Ys 19 1 3<|V1 20 Mu 19<|V2 21 XE 18 20<|ym 5 21<|.done
@[simp]def nT:VT:=
 Ys 19 1 3<|V1 18 YA 17<|V1 20 Mu 19<|V2 21 XE 18 20<|ym 5 21<|.done
@[simp]def PX:VT:=
 Ys 17 1 3<|.alt (nU) (nT)
@[simp]def nS:VT:=
 V1 23 X4 22<|Ys 24 1 3<|V1 25 Mt 24<|V2 26 XE 23 25<|ym 6 26<|.done
@[simp]def nR:VT:=
 Ys 24 1 3<|V1 23 X4 22<|V1 25 Mt 24<|V2 26 XE 23 25<|ym 6 26<|.done
@[simp]def RG:VT:=
 Ys 22 1 3<|.alt (nS) (nR)
@[simp]def nQ:VT:=
 V1 28 XX 27<|Ys 29 1 3<|V1 30 Ms 29<|V2 31 XE 28 30<|ym 7 31<|.done
@[simp]def nP:VT:=
 Ys 29 1 3<|V1 28 XX 27<|V1 30 Ms 29<|V2 31 XE 28 30<|ym 7 31<|.done
@[simp]def Tj:VT:=
 Ys 27 1 3<|.alt (nQ) (nP)
@[simp]def nO:VT:=
 V1 33 XW 32<|Ys 34 1 3<|V1 35 Mr 34<|V2 36 XE 33 35<|ym 8 36<|.done
@[simp]def nN:VT:=
 Ys 34 1 3<|V1 33 XW 32<|V1 35 Mr 34<|V2 36 XE 33 35<|ym 8 36<|.done
@[simp]def VR:VT:=
 Ys 32 1 3<|.alt (nO) (nN)
@[simp]def nL:VT:=
 V1 38 XT 37<|Ys 39 1 3<|V1 40 Mq 39<|V2 41 XE 38 40<|ym 9 41<|.done
@[simp]def nK:VT:=
 Ys 39 1 3<|V1 38 XT 37<|V1 40 Mq 39<|V2 41 XE 38 40<|ym 9 41<|.done
@[simp]def Wv:VT:=
 Ys 37 1 3<|.alt (nL) (nK)
@[simp]def DV:=[wm 42 5,wm 43 42,Ym 44 43 6,wp 45 43 44,wm 46 45,Ym 47 46 7,wp 48 46 47,wm 49 48,Ym 50 49 8,wp 51 49 50,wm 52 51,Ym 53 52 9,wp 54 52 53,wm 2 54]
def a5n:Z9:=(QR oe (QR oa (Q (QR nZ (CR 12 nY)) (QR nX (Q (QR nW (CR 16 nV)) (Q (.any PX) (Q (.any RG) (Q (.any Tj) (Q (.any VR) (Q (.any Wv) (QR DV .ret)))))))))))
theorem ov:Zz prog r8=some (55,a5n,[.tmp 2]):=by kernel_rfl
@[simp]def nJ:=[wx 1 0,wb 2 false]
@[simp]def nI:=[y0 13 Tc,wm 3 13]
@[simp]def nG:=[wm 14 3,wu 15 14]
@[simp]def nF:=[wb 2 false]
@[simp]def nE:=[ws 16 1 3,Y1 17 VL 16,wm 4 17]
@[simp]def nC:=[wm 18 4,wu 19 18]
@[simp]def nB:=[wb 2 true]
@[simp]def nA:=[ws 20 1 3,Y1 21 Vq 20,wm 5 21]
@[simp]def Gz:VT:=
 V1 29 XW 28<|Ys 30 1 3<|V1 31 XT 30<|oc 32 (.lit 1 5 [(0,(T 23)),(1,(T 25)),(2,(T 27)),(3,(T 29)),(4,(T 31))])<|ym 6 32<|.done
@[simp]def Gy:VT:=
 Ys 30 1 3<|V1 29 XW 28<|V1 31 XT 30<|oc 32 (.lit 1 5 [(0,(T 23)),(1,(T 25)),(2,(T 27)),(3,(T 29)),(4,(T 31))])<|ym 6 32<|.done
@[simp]def Gx:VT:=
 V1 27 XX 26<|Ys 28 1 3<|.alt (Gz) (Gy)
@[simp]def Nb:VT:=
 V1 27 XX 26<|.alt (Gz) (Gy)
@[simp]def Na:VT:=
 Ys 30 1 3<|V1 27 XX 26<|V1 29 XW 28<|V1 31 XT 30<|oc 32 (.lit 1 5 [(0,(T 23)),(1,(T 25)),(2,(T 27)),(3,(T 29)),(4,(T 31))])<|ym 6 32<|.done
@[simp]def nz:VT:=
 Ys 28 1 3<|.alt (Nb) (Na)
@[simp]def M9:VT:=
 V1 27 XX 26<|Ys 28 1 3<|V1 29 XW 28<|V1 31 XT 30<|oc 32 (.lit 1 5 [(0,(T 23)),(1,(T 25)),(2,(T 27)),(3,(T 29)),(4,(T 31))])<|ym 6 32<|.done
@[simp]def M8:VT:=
 Ys 28 1 3<|V1 27 XX 26<|V1 29 XW 28<|V1 31 XT 30<|oc 32 (.lit 1 5 [(0,(T 23)),(1,(T 25)),(2,(T 27)),(3,(T 29)),(4,(T 31))])<|ym 6 32<|.done
@[simp]def nw:VT:=
 Ys 30 1 3<|.alt (M9) (M8)
@[simp]def Gw:VT:=
 .alt (nz) (nw)
@[simp]def Ld:VT:=
 V1 25 X4 24<|Ys 26 1 3<|.alt (Gx) (Gw)
@[simp]def PU:VT:=
 V1 25 X4 24<|.alt (Gx) (Gw)
@[simp]def Sx:VT:=
 V1 25 X4 24<|.alt (Nb) (Na)
@[simp]def Sw:VT:=
 Ys 30 1 3<|V1 25 X4 24<|V1 27 XX 26<|V1 29 XW 28<|V1 31 XT 30<|oc 32 (.lit 1 5 [(0,(T 23)),(1,(T 25)),(2,(T 27)),(3,(T 29)),(4,(T 31))])<|ym 6 32<|.done
@[simp]def DU:VT:=
 Ys 28 1 3<|.alt (Sx) (Sw)
@[simp]def Ss:VT:=
 V1 25 X4 24<|.alt (M9) (M8)
@[simp]def Sr:VT:=
 Ys 28 1 3<|V1 25 X4 24<|V1 27 XX 26<|V1 29 XW 28<|V1 31 XT 30<|oc 32 (.lit 1 5 [(0,(T 23)),(1,(T 25)),(2,(T 27)),(3,(T 29)),(4,(T 31))])<|ym 6 32<|.done
@[simp]def DT:VT:=
 Ys 30 1 3<|.alt (Ss) (Sr)
@[simp]def PT:VT:=
 .alt (DU) (DT)
@[simp]def DS:VT:=
 Ys 26 1 3<|.alt (PU) (PT)
@[simp]def PR:VT:=
 V1 25 X4 24<|Ys 26 1 3<|.alt (Nb) (Na)
@[simp]def DR:VT:=
 Ys 26 1 3<|.alt (Sx) (Sw)
@[simp]def Sq:VT:=
 V1 25 X4 24<|Ys 26 1 3<|V1 27 XX 26<|V1 29 XW 28<|V1 31 XT 30<|oc 32 (.lit 1 5 [(0,(T 23)),(1,(T 25)),(2,(T 27)),(3,(T 29)),(4,(T 31))])<|ym 6 32<|.done
@[simp]def Sp:VT:=
 Ys 26 1 3<|V1 25 X4 24<|V1 27 XX 26<|V1 29 XW 28<|V1 31 XT 30<|oc 32 (.lit 1 5 [(0,(T 23)),(1,(T 25)),(2,(T 27)),(3,(T 29)),(4,(T 31))])<|ym 6 32<|.done
@[simp]def DQ:VT:=
 Ys 30 1 3<|.alt (Sq) (Sp)
@[simp]def PQ:VT:=
 .alt (DR) (DQ)
@[simp]def DP:VT:=
 Ys 28 1 3<|.alt (PR) (PQ)
@[simp]def PO:VT:=
 V1 25 X4 24<|Ys 26 1 3<|.alt (M9) (M8)
@[simp]def DO:VT:=
 Ys 26 1 3<|.alt (Ss) (Sr)
@[simp]def DN:VT:=
 Ys 28 1 3<|.alt (Sq) (Sp)
@[simp]def PN:VT:=
 .alt (DO) (DN)
@[simp]def DM:VT:=
 Ys 30 1 3<|.alt (PO) (PN)
@[simp]def DL:VT:=
 .alt (DP) (DM)
@[simp]def Lc:VT:=
 .alt (DS) (DL)
@[simp]def DK:VT:=
 V1 23 YA 22<|Ys 24 1 3<|.alt (Ld) (Lc)
@[simp]def DJ:VT:=
 V1 23 YA 22<|.alt (Ld) (Lc)
@[simp]def Lb:VT:=
 V1 23 YA 22<|.alt (PU) (PT)
@[simp]def PL:VT:=
 V1 23 YA 22<|.alt (Sx) (Sw)
@[simp]def PK:VT:=
 Ys 30 1 3<|V1 23 YA 22<|V1 25 X4 24<|V1 27 XX 26<|V1 29 XW 28<|V1 31 XT 30<|oc 32 (.lit 1 5 [(0,(T 23)),(1,(T 25)),(2,(T 27)),(3,(T 29)),(4,(T 31))])<|ym 6 32<|.done
@[simp]def DI:VT:=
 Ys 28 1 3<|.alt (PL) (PK)
@[simp]def PJ:VT:=
 V1 23 YA 22<|.alt (Ss) (Sr)
@[simp]def PI:VT:=
 Ys 28 1 3<|V1 23 YA 22<|V1 25 X4 24<|V1 27 XX 26<|V1 29 XW 28<|V1 31 XT 30<|oc 32 (.lit 1 5 [(0,(T 23)),(1,(T 25)),(2,(T 27)),(3,(T 29)),(4,(T 31))])<|ym 6 32<|.done
@[simp]def DH:VT:=
 Ys 30 1 3<|.alt (PJ) (PI)
@[simp]def La:VT:=
 .alt (DI) (DH)
@[simp]def DG:VT:=
 Ys 26 1 3<|.alt (Lb) (La)
@[simp]def K9:VT:=
 V1 23 YA 22<|.alt (PR) (PQ)
@[simp]def DF:VT:=
 Ys 26 1 3<|.alt (PL) (PK)
@[simp]def PH:VT:=
 V1 23 YA 22<|.alt (Sq) (Sp)
@[simp]def PG:VT:=
 Ys 26 1 3<|V1 23 YA 22<|V1 25 X4 24<|V1 27 XX 26<|V1 29 XW 28<|V1 31 XT 30<|oc 32 (.lit 1 5 [(0,(T 23)),(1,(T 25)),(2,(T 27)),(3,(T 29)),(4,(T 31))])<|ym 6 32<|.done
@[simp]def DE:VT:=
 Ys 30 1 3<|.alt (PH) (PG)
@[simp]def K8:VT:=
 .alt (DF) (DE)
@[simp]def DC:VT:=
 Ys 28 1 3<|.alt (K9) (K8)
@[simp]def K7:VT:=
 V1 23 YA 22<|.alt (PO) (PN)
@[simp]def DB:VT:=
 Ys 26 1 3<|.alt (PJ) (PI)
@[simp]def DA:VT:=
 Ys 28 1 3<|.alt (PH) (PG)
@[simp]def K6:VT:=
 .alt (DB) (DA)
@[simp]def Dz:VT:=
 Ys 30 1 3<|.alt (K7) (K6)
@[simp]def Dy:VT:=
 .alt (DC) (Dz)
@[simp]def Dx:VT:=
 .alt (DG) (Dy)
@[simp]def Dw:VT:=
 Ys 24 1 3<|.alt (DJ) (Dx)
@[simp]def Dv:VT:=
 V1 23 YA 22<|Ys 24 1 3<|.alt (PU) (PT)
@[simp]def Du:VT:=
 Ys 24 1 3<|.alt (Lb) (La)
@[simp]def K5:VT:=
 V1 23 YA 22<|Ys 24 1 3<|.alt (Sx) (Sw)
@[simp]def Dt:VT:=
 Ys 24 1 3<|.alt (PL) (PK)
@[simp]def PF:VT:=
 V1 23 YA 22<|Ys 24 1 3<|V1 25 X4 24<|V1 27 XX 26<|V1 29 XW 28<|V1 31 XT 30<|oc 32 (.lit 1 5 [(0,(T 23)),(1,(T 25)),(2,(T 27)),(3,(T 29)),(4,(T 31))])<|ym 6 32<|.done
@[simp]def PE:VT:=
 Ys 24 1 3<|V1 23 YA 22<|V1 25 X4 24<|V1 27 XX 26<|V1 29 XW 28<|V1 31 XT 30<|oc 32 (.lit 1 5 [(0,(T 23)),(1,(T 25)),(2,(T 27)),(3,(T 29)),(4,(T 31))])<|ym 6 32<|.done
@[simp]def Ds:VT:=
 Ys 30 1 3<|.alt (PF) (PE)
@[simp]def K4:VT:=
 .alt (Dt) (Ds)
@[simp]def Dr:VT:=
 Ys 28 1 3<|.alt (K5) (K4)
@[simp]def K3:VT:=
 V1 23 YA 22<|Ys 24 1 3<|.alt (Ss) (Sr)
@[simp]def Dq:VT:=
 Ys 24 1 3<|.alt (PJ) (PI)
@[simp]def Dp:VT:=
 Ys 28 1 3<|.alt (PF) (PE)
@[simp]def K0:VT:=
 .alt (Dq) (Dp)
@[simp]def Dn:VT:=
 Ys 30 1 3<|.alt (K3) (K0)
@[simp]def Dm:VT:=
 .alt (Dr) (Dn)
@[simp]def Dl:VT:=
 .alt (Du) (Dm)
@[simp]def Dk:VT:=
 Ys 26 1 3<|.alt (Dv) (Dl)
@[simp]def Dj:VT:=
 V1 23 YA 22<|Ys 24 1 3<|.alt (PR) (PQ)
@[simp]def Di:VT:=
 Ys 24 1 3<|.alt (K9) (K8)
@[simp]def Dh:VT:=
 Ys 26 1 3<|.alt (K5) (K4)
@[simp]def KZ:VT:=
 V1 23 YA 22<|Ys 24 1 3<|.alt (Sq) (Sp)
@[simp]def Dg:VT:=
 Ys 24 1 3<|.alt (PH) (PG)
@[simp]def Df:VT:=
 Ys 26 1 3<|.alt (PF) (PE)
@[simp]def KY:VT:=
 .alt (Dg) (Df)
@[simp]def De:VT:=
 Ys 30 1 3<|.alt (KZ) (KY)
@[simp]def Dd:VT:=
 .alt (Dh) (De)
@[simp]def Dc:VT:=
 .alt (Di) (Dd)
@[simp]def Db:VT:=
 Ys 28 1 3<|.alt (Dj) (Dc)
@[simp]def Da:VT:=
 V1 23 YA 22<|Ys 24 1 3<|.alt (PO) (PN)
@[simp]def C9:VT:=
 Ys 24 1 3<|.alt (K7) (K6)
@[simp]def C8:VT:=
 Ys 26 1 3<|.alt (K3) (K0)
@[simp]def C7:VT:=
 Ys 28 1 3<|.alt (KZ) (KY)
@[simp]def C6:VT:=
 .alt (C8) (C7)
@[simp]def C5:VT:=
 .alt (C9) (C6)
@[simp]def C4:VT:=
 Ys 30 1 3<|.alt (Da) (C5)
@[simp]def C3:VT:=
 .alt (Db) (C4)
@[simp]def C2:VT:=
 .alt (Dk) (C3)
@[simp]def C1:VT:=
 .alt (Dw) (C2)
@[simp]def Vi:VT:=
 Ys 22 1 3<|.alt (DK) (C1)
@[simp]def nu:=[wk 7 0]
@[simp]def C0:=[wm 33 7,wm 34 6,wn 35 34,wt 36 .lss 33 35]
@[simp]def CZ:=[wm 39 6,wm 40 7,wi 41 1 39 40,wl 42 41,wm 8 42]
@[simp]def CY:=[wm 43 8,wn 44 43,wc 45 .gtr 44 0,wm 46 45,Ym 47 46 8,U1 48 46 Ub 47,yu 49 46 48,wp 50 46 49]
@[simp]def CW:=[wb 2 false]
@[simp]def CV:=[wk 9 0]
@[simp]def CU:=[wm 51 9,wm 52 8,wn 53 52,wt 54 .lss 51 53]
@[simp]def CS:=[wb 10 false]
@[simp]def CQ:=[wk 11 0]
@[simp]def CP:=[wm 57 11,wm 58 5,wn 59 58,wt 60 .lss 57 59]
@[simp]def CO:VT:=
 ym 63 10<|ym 64 63<|V (qm 65 64 5)<|V (qm 66 64 11)<|V (qi 67 64 8 65 66)<|V (Ws 68 64 67 8)<|V (qm 69 64 8)<|V (qm 70 64 9)<|V (qi 71 64 8 69 70)<|V (Ws 72 64 71 8)<|V (og 73 64 false (.eqs false [.i .i64, .i .i64, .i .i64, .i .i64, .b, .i .i64, .s, .b] (T 68) (T 72)))<|vq 74 64 73<|ym 10 74<|.done
@[simp]def CN:=[wm 61 11,wc 62 .add 61 1,wm 11 62]
def Zq:Z9:=
 (Q (QR CP (CX 60 4)) (Q (.block 5 (.any CO)) (R CN)))
@[simp]def CM:=[wm 75 8,wm 76 9,wi 77 8 75 76,yf 78 2 77,wl 79 78,wc 80 .eql 79 4,wm 81 80,qm 82 81 8,qm 83 81 9,qi 84 81 8 82 83,jf 85 81 2 84,ql 86 81 85,qc 87 81 .eql 86 5,wq 88 81 87,wm 12 88]
@[simp]def CL:=[wm 89 10,wu 90 89,wm 91 90,qm 92 91 7,qc 93 91 .lss 92 2,qm 94 91 93,Ym 95 94 12,qp 96 91 94 95,wq 97 91 96,wm 98 97,qm 99 98 7,qc 100 98 .eql 99 0,qm 101 98 100,Ym 102 101 8,Ym 103 101 9,Yi 104 101 8 102 103,qf 105 101 2 104,Yl 106 101 105,Yc 107 101 .neq 106 1,qp 108 98 101 107,wq 109 98 108]
@[simp]def CK:=[wb 2 false]
@[simp]def CJ:VT:=
 ym 110 7<|yc 111 .eql 110 2<|ym 112 111<|V (Ym 113 112 8)<|V (Ym 114 112 9)<|V (Yi 115 112 8 113 114)<|V (qf 116 112 4 115)<|V (qs 117 112 116 3)<|V (Ym 118 112 8)<|V (og 119 112 true (.ia 8 (T 118) (K 0)))<|V (qf 120 112 4 119)<|V (qs 121 112 120 3)<|V (og 122 112 true (.eqs true [.b, .i .i64, .s] (T 117) (T 121)))<|V (Ym 123 112 122)<|V (qm 124 123 8)<|V (qm 125 123 9)<|V (qi 126 123 8 124 125)<|V (jf 127 123 3 126)<|V (ql 128 123 127)<|V (qm 129 123 8)<|V (og 130 123 false (.ia 8 (T 129) (K 0)))<|V (jf 131 123 3 130)<|V (ql 132 123 131)<|V (qt 133 123 .neq 128 132)<|V (yq 134 112 123 133)<|V (Ym 135 112 134)<|V (qm 136 135 9)<|V (qc 137 135 .eql 136 0)<|V (qm 138 135 137)<|V (Ym 139 138 8)<|V (Ym 140 138 9)<|V (Yi 141 138 8 139 140)<|V (qf 142 138 7 141)<|V (Yl 143 138 142)<|V (yu 144 138 143)<|V (qp 145 135 138 144)<|V (yq 146 112 135 145)<|V (Ym 147 112 146)<|V (qm 148 147 9)<|V (qc 149 147 .eql 148 0)<|V (qm 150 147 8)<|V (qm 151 147 9)<|V (qi 152 147 8 150 151)<|V (jf 153 147 2 152)<|V (ql 154 147 153)<|V (qc 155 147 .eql 154 4)<|V (og 156 147 false (.beq true (T 149) (T 155)))<|V (yq 157 112 147 156)<|yp 158 112 157<|.done
@[simp]def CH:=[wb 2 false]
@[simp]def CG:=[wm 55 9,wc 56 .add 55 1,wm 9 56]
def YE:Z9:=
 (Q (QR CU (CX 54 2)) (Q (.block 3 (QR CS (Q (QR CQ (.block 4 (.loop Zq))) (QR CM (Q (QR CL (CR 109 CK)) (Q (.any CJ) (CR 158 CH))))))) (R CG)))
@[simp]def CF:=[wm 159 7,wc 160 .eql 159 3,wm 161 160,Ym 162 161 8,yn 163 161 162,Yc 164 161 .gtr 163 0,wp 165 161 164,wm 166 165,Ym 167 166 8,og 168 166 true (.ia 8 (T 167) (K 0)),qf 169 166 2 168,Yl 170 166 169,Yc 171 166 .neq 170 4,wp 172 166 171,wm 173 172,qm 174 173 7,qc 175 173 .eql 174 4,qm 176 173 175,Ym 177 176 8,yn 178 176 177,Yc 179 176 .gtr 178 0,qp 180 173 176 179,qm 181 173 180,Ym 182 181 8,og 183 181 true (.ia 8 (T 182) (K 0)),qf 184 181 2 183,Yl 185 181 184,Yc 186 181 .neq 185 4,qp 187 173 181 186,qm 188 173 187,Ym 189 188 8,og 190 188 true (.ia 8 (T 189) (K 0)),qf 191 188 2 190,Yl 192 188 191,Yc 193 188 .neq 192 5,qp 194 173 188 193,wq 195 173 194]
@[simp]def CD:=[wb 2 false]
@[simp]def CB:=[wm 37 7,wc 38 .add 37 1,wm 7 38]
def XK:Z9:=
 (Q (QR C0 (CX 36 0)) (Q (.block 1 (QR CZ (Q (QR CY (CR 50 CW)) (Q (QR CV (.block 2 (.loop YE))) (QR CF (CR 195 CD)))))) (R CB)))
@[simp]def CA:=[wb 2 true]
def a6n:Z9:=(QR nJ (QR nI (Q (QR nG (CR 15 nF)) (QR nE (Q (QR nC (CR 19 nB)) (QR nA (Q (.any Vi) (Q (QR nu (.block 0 (.loop XK))) (QR CA .ret)))))))))
theorem oA:Zz prog rZ=some (196,a6n,[.tmp 2]):=by kernel_rfl
@[simp]def nt:=[wx 1 0,wb 2 false]
@[simp]def nr:=[y0 12 Tc,wm 3 12]
@[simp]def nq:=[wm 13 3,wu 14 13]
@[simp]def np:=[wb 2 false]
@[simp]def nn:=[ws 15 1 3,Y1 16 VL 15,wm 4 16]
@[simp]def nk:=[wm 17 4,wu 18 17]
@[simp]def nj:=[wb 2 true]
@[simp]def ni:=[ws 19 1 3,Y1 20 YA 19,wn 21 20,wc 22 .gtr 21 0,wm 5 22]
@[simp]def nh:=[ws 23 1 3,Y1 24 X4 23,wn 25 24,wc 26 .gtr 25 0,wm 6 26]
@[simp]def ng:=[ws 27 1 3,Y1 28 XX 27,wn 29 28,wc 30 .gtr 29 0,wm 7 30]
@[simp]def Cz:=[ws 31 1 3,Y1 32 XW 31,wn 33 32,wc 34 .gtr 33 0,wm 8 34]
@[simp]def Cy:=[ws 35 1 3,Y1 36 XT 35,wn 37 36,wc 38 .gtr 37 0,wm 9 38]
@[simp]def Cx:=[wm 39 5,wm 40 39,Ym 41 40 6,yu 42 40 41,wp 43 40 42,wm 44 43,qm 45 44 7,qm 46 44 45,Ym 47 46 8,yu 48 46 47,qp 49 44 46 48,wq 50 44 49,wm 51 50,qm 52 51 8,qm 53 51 52,Ym 54 53 9,yu 55 53 54,qp 56 51 53 55,wq 57 51 56]
@[simp]def Cw:=[wb 2 false]
@[simp]def nc:VT:=
 V1 60 Vq 59<|Ys 61 1 3<|V1 62 Mn 61<|V2 63 Mp 60 62<|ym 58 63<|ve 64 0 58<|ve 65 1 58<|ym 10 64<|ym 11 65<|.done
@[simp]def na:VT:=
 Ys 61 1 3<|V1 60 Vq 59<|V1 62 Mn 61<|V2 63 Mp 60 62<|ym 58 63<|ve 64 0 58<|ve 65 1 58<|ym 10 64<|ym 11 65<|.done
@[simp]def Cv:VT:=
 Ys 59 1 3<|.alt (nc) (na)
@[simp]def Cu:=[wm 66 11,wm 67 6,wu 68 67,wm 69 68,Ym 70 69 9,yu 71 69 70,wp 72 69 71,oo 73 (.beq false (T 66) (T 72)),wm 2 73]
def a7n:Z9:=(QR nt (QR nr (Q (QR nq (CR 14 np)) (QR nn (Q (QR nk (CR 18 nj)) (QR ni (QR nh (QR ng (QR Cz (QR Cy (Q (QR Cx (CR 57 Cw)) (Q (.any Cv) (QR Cu .ret)))))))))))))
theorem qB:Zz prog su=some (74,a7n,[.tmp 2]):=by kernel_rfl
@[simp]def mZ:=[wx 1 0,wb 2 false]
@[simp]def mY:=[y0 7 Tc,wm 3 7]
@[simp]def mX:=[wm 8 3,wu 9 8]
@[simp]def mW:=[wb 2 false]
@[simp]def mV:=[ws 10 1 3,Y1 11 VL 10,wm 4 11]
@[simp]def mU:=[wm 12 4,wu 13 12]
@[simp]def mT:=[wb 2 true]
@[simp]def mS:=[ws 14 1 3,Y1 15 Vq 14,wm 5 15]
@[simp]def mR:=[wk 6 0]
@[simp]def mQ:=[wm 16 6,wm 17 5,wn 18 17,wt 19 .lss 16 18]
@[simp]def Ct:VT:=
 ym 22 5<|ym 23 6<|yi 24 8 22 23<|Yf 25 0 24<|yl 26 25<|ym 27 5<|ym 28 6<|yi 29 8 27 28<|Yf 30 1 29<|yl 31 30<|vt 32 .geq 26 31<|.done
@[simp]def Cs:=[wb 2 true]
@[simp]def Cr:=[wm 20 6,wc 21 .add 20 1,wm 6 21]
def Sn:Z9:=
 (Q (QR mQ (CX 19 0)) (Q (.block 1 (Q (.any Ct) (CR 32 Cs))) (R Cr)))
@[simp]def Cq:=[ws 33 1 3,Y1 34 YA 33,wn 35 34,wc 36 .eql 35 0,wm 37 36,qs 38 37 1 3,U1 39 37 X4 38,yn 40 37 39,Yc 41 37 .eql 40 0,wp 42 37 41,wm 43 42,qs 44 43 1 3,U1 45 43 XX 44,yn 46 43 45,Yc 47 43 .eql 46 0,wp 48 43 47,wm 49 48,qs 50 49 1 3,U1 51 49 XW 50,yn 52 49 51,Yc 53 49 .eql 52 0,wp 54 49 53,wm 55 54,qs 56 55 1 3,U1 57 55 XT 56,yn 58 55 57,Yc 59 55 .eql 58 0,wp 60 55 59,wm 2 60]
def a8n:Z9:=(QR mZ (QR mY (Q (QR mX (CR 9 mW)) (QR mV (Q (QR mU (CR 13 mT)) (QR mS (Q (QR mR (.block 0 (.loop Sn))) (QR Cq .ret))))))))
theorem mP:Zz prog rY=some (61,a8n,[.tmp 2]):=by kernel_rfl
@[simp]def mO:=[wx 2 0,wb 4 false]
@[simp]def mN:=[y0 7 Tc,wm 5 7]
@[simp]def mM:=[wm 8 5,wu 9 8]
@[simp]def mL:=[wb 4 false]
@[simp]def mK:=[ws 10 2 3,Y1 11 VL 10,wm 6 11]
@[simp]def mJ:=[wm 12 6,wu 13 12]
@[simp]def mI:=[wb 4 true]
@[simp]def Gv:VT:=
 V (U2 24 21 R0 22 23)<|V (qs 25 21 2 3)<|V (U2 27 21 Ml 25 26)<|V (Yt 28 21 .eql 24 27)<|yp 29 21 28<|ym 4 29<|.done
@[simp]def Gu:VT:=
 V (qs 25 21 2 3)<|V (U2 24 21 R0 22 23)<|V (U2 27 21 Ml 25 26)<|V (Yt 28 21 .eql 24 27)<|yp 29 21 28<|ym 4 29<|.done
@[simp]def mH:VT:=
 V2 16 Ua 14 15<|Ys 17 2 3<|V2 19 Mm 17 18<|vt 20 .eql 16 19<|ym 21 20<|V (qs 22 21 2 3)<|V (Ym 23 21 1)<|V (Ym 26 21 1)<|.alt (Gv) (Gu)
@[simp]def mG:VT:=
 Ys 17 2 3<|V2 16 Ua 14 15<|V2 19 Mm 17 18<|vt 20 .eql 16 19<|ym 21 20<|V (qs 22 21 2 3)<|V (Ym 23 21 1)<|V (Ym 26 21 1)<|.alt (Gv) (Gu)
@[simp]def mF:VT:=
 Ys 14 2 3<|ym 15 1<|ym 18 1<|.alt (mH) (mG)
def a9n:Z9:=(QR mO (QR mN (Q (QR mM (CR 9 mL)) (QR mK (Q (QR mJ (CR 13 mI)) (Q (.any mF) .ret))))))
theorem mE:Zz prog rX=some (30,a9n,[.tmp 4]):=by kernel_rfl
@[simp]def mD:=[wx 3 0,wb 6 false]
@[simp]def mC:=[y0 13 Tc,wm 7 13]
@[simp]def mB:=[wm 14 7,wu 15 14]
@[simp]def mA:=[wb 6 false]
@[simp]def mz:=[ws 16 3 3,Y1 17 VL 16,wm 8 17]
@[simp]def my:=[wm 18 8,wu 19 18,wm 20 19,qm 21 20 1,qm 22 20 2,qt 23 20 .gtr 21 22,wq 24 20 23]
@[simp]def mw:=[wb 6 true]
@[simp]def mv:=[ws 25 3 3,wm 26 1,Y2 27 Ua 25 26,wm 9 27]
@[simp]def mu:=[ws 28 3 3,wm 29 2,Y2 30 Ua 28 29,wm 10 30]
@[simp]def mr:=[ws 31 3 3,wm 32 1,Y2 33 R0 31 32,wm 11 33]
@[simp]def Cp:=[ws 34 3 3,wm 35 2,Y2 36 R0 34 35,wm 12 36]
@[simp]def Co:=[wm 37 10,wc 38 .lss 37 0,wm 39 38,qm 40 39 9,qc 41 39 .geq 40 0,qm 42 39 41,Ym 43 42 9,Ym 44 42 10,Yt 45 42 .leq 43 44,qp 46 39 42 45,wq 47 39 46,wm 48 47,Ym 49 48 12,Yc 50 48 .lss 49 0,Ym 51 48 50,qm 52 51 11,qc 53 51 .geq 52 0,qm 54 51 53,Ym 55 54 11,Ym 56 54 12,Yt 57 54 .leq 55 56,qp 58 51 54 57,yq 59 48 51 58,wp 60 48 59,wm 61 60,qs 62 61 3 3,og 63 61 true (.call Ua [(T 62),(K 6)]),Yc 64 61 .eql 63 (-1),wp 65 61 64,wm 66 65,qs 67 66 3 3,og 68 66 true (.call R0 [(T 67),(K 6)]),Yc 69 66 .eql 68 (-1),wp 70 66 69,wm 6 70]
def a0o:Z9:=(QR mD (QR mC (Q (QR mB (CR 15 mA)) (QR mz (Q (QR my (CR 24 mw)) (QR mv (QR mu (QR mr (QR Cp (QR Co .ret))))))))))
theorem mq:Zz prog rW=some (71,a0o,[.tmp 6]):=by kernel_rfl
@[simp]def mo:=[wb 0 false]
@[simp]def mn:=[oo 5 (.build [zb,zi,zs] [(1,1,(K 5))]),oo 1 (.alloc [zb,zi,zs]),wo 1 5 3]
@[simp]def ml:=[wz 2 22]
@[simp]def mj:=[wm 6 2,oo 7 (.build [zi,zi,zi,zi,zb,zi,zs,zi,zi,zi, .nil 3,zi,zi,zb,zi,zs,zb,zi,zs, .nil 9, .nil 5,zb] [(0,1,(K 1)),(1,1,(K 1)),(2,1,(K 3))]),oo 8 (.build [zi,zi,zi,zi,zb,zi,zs,zi,zi,zi, .nil 3,zi,zi,zb,zi,zs,zb,zi,zs, .nil 9, .nil 5,zb] [(0,1,(K 2)),(1,1,(K 1)),(2,1,(K 3))]),oo 9 (.lit 22 2 [(0,(T 7)),(1,(T 8))]),oo 10 (.app 22 248 (T 6) (T 9)),wm 2 10]
@[simp]def mh:=[wm 11 2,ws 12 1 3,oo 13 (.build [zi,zi,zi,zi,zb,zi,zs,zi,zi,zi, .nil 3,zi,zi,zb,zi,zs,zb,zi,zs, .nil 9, .nil 5,zb] [(0,1,(K 1)),(1,1,(K 2)),(4,3,(T 12))]),ws 14 1 3,oo 15 (.build [zi,zi,zi,zi,zb,zi,zs,zi,zi,zi, .nil 3,zi,zi,zb,zi,zs,zb,zi,zs, .nil 9, .nil 5,zb] [(0,1,(K 2)),(1,1,(K 2)),(4,3,(T 14)),(21,1,(B true))]),oo 16 (.lit 22 2 [(0,(T 13)),(1,(T 15))]),oo 17 (.app 22 248 (T 11) (T 16)),wm 2 17]
@[simp]def mg:=[wm 18 2,ws 19 1 3,ws 20 1 3,oo 21 (.lit 3 1 [(0,(T 20))]),oo 22 (.build [zi,zi,zi,zi,zb,zi,zs,zi,zi,zi, .nil 3,zi,zi,zb,zi,zs,zb,zi,zs, .nil 9, .nil 5,zb] [(0,1,(K 1)),(1,1,(K 3)),(4,3,(T 19)),(9,1,(K 1)),(10,1,(T 21))]),oo 23 (.build [zi,zi,zi,zi,zb,zi,zs,zi,zi,zi, .nil 3,zi,zi,zb,zi,zs,zb,zi,zs, .nil 9, .nil 5,zb] [(0,1,(K 1)),(1,1,(K 5))]),oo 24 (.lit 22 2 [(0,(T 22)),(1,(T 23))]),oo 25 (.app 22 248 (T 18) (T 24)),wm 2 25]
@[simp]def mf:=[wm 26 2,ws 27 1 3,oo 28 (.build [zi,zi,zi,zi,zb,zi,zs,zi,zi,zi, .nil 3,zi,zi,zb,zi,zs,zb,zi,zs, .nil 9, .nil 5,zb] [(0,1,(K 2)),(1,1,(K 3)),(4,3,(T 27)),(9,1,(K 1))]),oo 29 (.build [zi,zi,zi,zi,zb,zi,zs,zi,zi,zi, .nil 3,zi,zi,zb,zi,zs,zb,zi,zs, .nil 9, .nil 5,zb] [(0,1,(K 2)),(1,1,(K 5))]),oo 30 (.lit 22 2 [(0,(T 28)),(1,(T 29))]),oo 31 (.app 22 248 (T 26) (T 30)),wm 2 31]
@[simp]def me:=[oo 32 (.lit 1 1 [(0,(B false))]),oo 33 (.build [.nil 1] [(0,1,(T 32))]),oo 34 (.lit 1 1 [(0,(T 33))]),wm 35 2,ws 36 1 3,oo 37 (.lit 1 2 [(0,(K 1)),(1,(K 2))]),oo 38 (.build [zi,zb,zi,zs, .nil 1] [(1,3,(T 36)),(4,1,(T 37))]),oo 39 (.lit 5 1 [(0,(T 38))]),oo 40 (.build [.nil 1, .nil 22, .nil 5] [(0,1,(T 34)),(1,1,(T 35)),(2,1,(T 39))]),oo 3 (.alloc [.nil 1, .nil 22, .nil 5]),wo 3 40 3]
@[simp]def mc:=[ws 41 3 3,Y1 42 XX 41,wm 4 42]
@[simp]def ma:=[ws 43 3 3,Y1 44 YA 43,wn 45 44,wc 46 .eql 45 0,wm 47 46,qs 48 47 3 3,U1 49 47 X4 48,yn 50 47 49,Yc 51 47 .eql 50 0,wp 52 47 51,wm 53 52,qs 54 53 3 3,U1 55 53 XW 54,yn 56 53 55,Yc 57 53 .eql 56 2,wp 58 53 57,wm 59 58,Ym 60 59 4,yn 61 59 60,Yc 62 59 .eql 61 2,wp 63 59 62,wm 64 63,Ym 65 64 4,og 66 64 true (.ia 8 (T 65) (K 0)),qf 67 64 0 66,Yl 68 64 67,Yc 69 64 .eql 68 2,wp 70 64 69,wm 71 70,Ym 72 71 4,og 73 71 true (.ia 8 (T 72) (K 0)),qf 74 71 2 73,Yl 75 71 74,Yc 76 71 .eql 75 4,wp 77 71 76,wm 78 77,Ym 79 78 4,og 80 78 true (.ia 8 (T 79) (K 1)),qf 81 78 2 80,Yl 82 78 81,Yc 83 78 .eql 82 1,wp 84 78 83,wm 85 84,qs 86 85 3 3,og 87 85 true (.call Ua [(T 86),(K 1)]),Yc 88 85 .eql 87 (-1),wp 89 85 88,wm 0 89]
def c9t:Z9:=(QR mo (QR mn (QR ml (QR mj (QR mh (QR mg (QR mf (QR me (QR mc (QR ma .ret))))))))))
theorem l9:Zz prog Tc=some (90,c9t,[.tmp 0]):=by kernel_rfl
@[simp]def l8:=[wx 1 0,wb 2 false]
@[simp]def l7:=[ws 4 1 3,Y1 5 VL 4,wm 3 5]
@[simp]def l6:=[wm 6 3,wm 7 6,qs 8 7 1 3,U1 9 7 Vq 8,yn 10 7 9,Yc 11 7 .leq 10 14,wp 12 7 11,wm 2 12]
def c0u:Z9:=(QR l8 (QR l7 (QR l6 .ret)))
theorem l5:Zz prog Ic=some (13,c0u,[.tmp 2]):=by kernel_rfl
@[simp]def lZ:=[wx 1 0,wz 2 8]
@[simp]def lY:=[ws 3 1 3,Y1 4 Xv 3,oo 5 (.lit 1 1 [(0,(K 1))]),oo 6 (.lit 1 1 [(0,(K 1))]),Y3 7 RY 4 5 6,wm 2 7]
def a3o:Z9:=(QR lZ (QR lY .ret))
theorem lX:Zz prog YA=some (8,a3o,[.tmp 2]):=by kernel_rfl
@[simp]def lW:=[wx 1 0,wz 2 8]
@[simp]def lV:=[ws 3 1 3,oo 4 (.call QI [(T 3),(K 2),(K 2)]),wm 2 4]
def a4o:Z9:=(QR lW (QR lV .ret))
theorem lU:Zz prog Mu=some (5,a4o,[.tmp 2]):=by kernel_rfl
@[simp]def lT:=[wx 1 0,wz 2 8]
@[simp]def lS:=[oo 4 (.lit 1 3 [(0,(K 1)),(1,(K 2)),(2,(K 3))]),wm 3 4]
@[simp]def lR:=[ws 5 1 3,Y1 6 Xv 5,wm 7 3,wm 8 3,Y3 9 RY 6 7 8,wm 2 9]
def a5o:Z9:=(QR lT (QR lS (QR lR .ret)))
theorem lQ:Zz prog X4=some (10,a5o,[.tmp 2]):=by kernel_rfl
@[simp]def lP:=[wx 1 0,wz 2 8]
@[simp]def lO:=[ws 3 1 3,oo 4 (.call QI [(T 3),(K 14),(K 14)]),wm 2 4]
def a6o:Z9:=(QR lP (QR lO .ret))
theorem lN:Zz prog Mt=some (5,a6o,[.tmp 2]):=by kernel_rfl
@[simp]def lM:=[wx 1 0,wz 2 8]
@[simp]def lL:=[ws 8 1 3,Y1 9 Xv 8,wm 3 9]
@[simp]def lK:=[wm 10 3,wn 11 10,wk 12 0]
@[simp]def lJ:=[wt 13 .lss 12 11]
@[simp]def lI:=[wi 14 8 10 12,ws 15 14 8,oo 5 (.alloc [zi,zi,zi,zi,zb,zi,zs,zb]),wo 5 15 8]
@[simp]def lH:=[yf 16 2 5,wl 17 16,wc 18 .neq 17 4,wm 19 18,jf 20 19 7 5,ql 21 19 20,Yu 22 19 21,wq 23 19 22]
@[simp]def lG:=[wm 24 3,Y1 25 Md 24,oo 26 (.V6 OM [] [(T 5)]),Y2 27 Me 25 26,wm 6 27]
@[simp]def lF:=[wm 28 6,oo 29 (.lit 1 1 [(0,(K 4))]),oo 30 (.lit 1 1 [(0,(K 1))]),Y3 31 RY 28 29 30,wm 7 31]
@[simp]def lE:=[wm 32 7,wn 33 32,wc 34 .gtr 33 0]
@[simp]def lD:=[wm 35 7,wm 2 35]
@[simp]def Cn:=[wc 36 .add 12 1,wm 12 36]
def TT:Z9:=
 (QR lJ (Q (CX 13 0) (Q (.block 1 (QR lI (Q (QR lH (CT 23 (.exit 1) .skip)) (QR lG (QR lF (QR lE (CR 34 lD))))))) (R Cn))))
@[simp]def Cm:=[wz 2 8]
def a7o:Z9:=(QR lM (QR lL (Q (QR lK (.block 0 (.loop TT))) (QR Cm .ret))))
theorem lC:Zz prog XX=some (37,a7o,[.tmp 2]):=by kernel_rfl
@[simp]def lB:=[wx 1 0,wz 2 8]
@[simp]def lA:=[ws 9 1 3,Y1 10 Vq 9,wm 3 10]
@[simp]def lz:=[wk 4 0]
@[simp]def ly:=[wm 11 4,wm 12 3,wn 13 12,wt 14 .lss 11 13]
@[simp]def lx:=[wm 17 3,wm 18 4,wi 19 8 17 18,ws 20 19 8,oo 5 (.alloc [zi,zi,zi,zi,zb,zi,zs,zb]),wo 5 20 8]
@[simp]def lu:=[yf 21 2 5,wl 22 21,wc 23 .neq 22 4,wm 24 23,jf 25 24 7 5,ql 26 24 25,Yu 27 24 26,wq 28 24 27]
@[simp]def lr:=[wz 6 8]
@[simp]def lq:=[wm 29 6,ws 30 5 8,oo 31 (.lit 8 1 [(0,(T 30))]),oo 32 (.app 8 72 (T 29) (T 31)),wm 6 32]
@[simp]def lp:=[wk 7 0]
@[simp]def ln:=[wm 33 7,wm 34 3,wn 35 34,wt 36 .lss 33 35]
@[simp]def Cl:VT:=
 ym 39 3<|ym 40 7<|yi 41 8 39 40<|Yf 42 2 41<|yl 43 42<|yc 44 .eql 43 1<|ym 45 44<|V (Ym 46 45 3)<|V (Ym 47 45 7)<|V (Yi 48 45 8 46 47)<|V (qf 49 45 3 48)<|V (Yl 50 45 49)<|V (qf 51 45 3 5)<|V (Yl 52 45 51)<|V (Yt 53 45 .eql 50 52)<|yp 54 45 53<|ym 55 54<|V (Ym 56 55 3)<|V (Ym 57 55 7)<|V (Yi 58 55 8 56 57)<|V (qf 59 55 4 58)<|V (qs 60 55 59 3)<|V (qf 61 55 4 5)<|V (qs 62 55 61 3)<|V (og 63 55 true (.eqs false [.b, .i .i64, .s] (T 60) (T 62)))<|yp 64 55 63<|.done
@[simp]def Ck:=[wm 65 6,wm 66 3,wm 67 7,wi 68 8 66 67,ws 69 68 8,oo 70 (.lit 8 1 [(0,(T 69))]),oo 71 (.app 8 72 (T 65) (T 70)),wm 6 71]
@[simp]def Cj:=[wm 37 7,wc 38 .add 37 1,wm 7 38]
def U8:Z9:=
 (Q (QR ln (CX 36 2)) (Q (.block 3 (Q (.any Cl) (CT 64 (R Ck) .skip))) (R Cj)))
@[simp]def Ci:=[wm 72 6,oo 73 (.build [zi,zb,zi,zb,zi,zs,zb] [(0,1,(K 16))]),oo 74 (.build [zi,zb,zi,zb,zi,zs,zb] [(0,1,(K 2))]),Y3 75 Mc 72 73 74,wm 8 75]
@[simp]def Ch:=[wm 76 8,wn 77 76,wc 78 .gtr 77 0]
@[simp]def Cg:=[wm 79 8,wm 2 79]
@[simp]def Cf:=[wm 15 4,wc 16 .add 15 1,wm 4 16]
def TS:Z9:=
 (Q (QR ly (CX 14 0)) (Q (.block 1 (QR lx (Q (QR lu (CT 28 (.exit 1) .skip)) (QR lr (QR lq (Q (QR lp (.block 2 (.loop U8))) (QR Ci (QR Ch (CR 78 Cg))))))))) (R Cf)))
@[simp]def Ce:=[wz 2 8]
def a8o:Z9:=(QR lB (QR lA (Q (QR lz (.block 0 (.loop TS))) (QR Ce .ret))))
theorem ll:Zz prog Ms=some (80,a8o,[.tmp 2]):=by kernel_rfl
@[simp]def lj:=[wx 1 0,wz 2 8]
@[simp]def lh:=[ws 3 1 3,Y1 4 Xv 3,oo 5 (.lit 1 1 [(0,(K 4))]),y0 6 Mb,Y3 7 RY 4 5 6,wm 2 7]
def a9o:Z9:=(QR lj (QR lh .ret))
theorem lg:Zz prog XW=some (8,a9o,[.tmp 2]):=by kernel_rfl
@[simp]def lf:=[wx 1 0,wz 2 8]
@[simp]def lb:=[ws 3 1 3,oo 4 (.call QI [(T 3),(K 16),(K 62)]),wm 2 4]
def a0p:Z9:=(QR lf (QR lb .ret))
theorem k9:Zz prog Mr=some (5,a0p,[.tmp 2]):=by kernel_rfl
@[simp]def kZ:=[wx 1 0,wz 2 8]
@[simp]def kY:=[ws 3 1 3,Y1 4 Xv 3,oo 5 (.lit 1 2 [(0,(K 4)),(1,(K 5))]),y0 6 Mb,Y3 7 RY 4 5 6,wm 2 7]
def a1p:Z9:=(QR kZ (QR kY .ret))
theorem kX:Zz prog XT=some (8,a1p,[.tmp 2]):=by kernel_rfl
@[simp]def kW:=[wx 1 0,wz 2 8]
@[simp]def kV:=[ws 3 1 3,oo 4 (.call QI [(T 3),(K 48),(K 62)]),wm 2 4]
def a2p:Z9:=(QR kW (QR kV .ret))
theorem kU:Zz prog Mq=some (5,a2p,[.tmp 2]):=by kernel_rfl
@[simp]def kT:=[wx 2 0,wk 4 0]
@[simp]def kR:=[ws 5 2 3,wm 6 1,oo 7 (.call L9 [(T 5),(T 6),(.func L8)]),wm 4 7]
def a3p:Z9:=(QR kT (QR kR .ret))
theorem pN:Zz prog Ua=some (8,a3p,[.tmp 4]):=by kernel_rfl
@[simp]def kQ:=[wx 2 0,wk 4 0]
@[simp]def kP:=[ws 5 2 3,wm 6 1,oo 7 (.call L7 [(T 5),(T 6),(K 1)]),wm 4 7]
def a4p:Z9:=(QR kQ (QR kP .ret))
theorem pP:Zz prog Mm=some (8,a4p,[.tmp 4]):=by kernel_rfl
@[simp]def kO:=[wx 2 0,wk 4 0]
@[simp]def kN:=[ws 5 2 3,wm 6 1,oo 7 (.call L9 [(T 5),(T 6),(.func L6)]),wm 4 7]
def a5p:Z9:=(QR kO (QR kN .ret))
theorem pM:Zz prog R0=some (8,a5p,[.tmp 4]):=by kernel_rfl
@[simp]def kM:=[wx 2 0,wk 4 0]
@[simp]def kL:=[ws 5 2 3,wm 6 1,oo 7 (.call L7 [(T 5),(T 6),(K 2)]),wm 4 7]
def a6p:Z9:=(QR kM (QR kL .ret))
theorem pO:Zz prog Ml=some (8,a6p,[.tmp 4]):=by kernel_rfl
@[simp]def kK:=[wx 3 0,wz 6 8]
@[simp]def kJ:=[ws 7 3 3,Y1 8 Vq 7,wm 9 1,oo 10 (.build [zi,zb,zi,zb,zi,zs,zb] [(0,1,(T 9))]),wm 11 2,oo 12 (.build [zi,zb,zi,zb,zi,zs,zb] [(0,1,(T 11))]),Y3 13 Mc 8 10 12,wm 6 13]
def c1u:Z9:=(QR kK (QR kJ .ret))
theorem kI:Zz prog QI=some (14,c1u,[.tmp 6]):=by kernel_rfl
@[simp]def kH:=[wx 2 0,wb 3 false]
@[simp]def kG:=[ws 4 2 8,ws 5 1 8,oo 6 (.eqs true [.i .i64, .i .i64, .i .i64, .i .i64, .b, .i .i64, .s, .b] (T 4) (T 5)),wm 7 6,qf 8 7 2 2,Yl 9 7 8,Yc 10 7 .neq 9 1,Ym 11 7 10,jf 12 11 3 2,ql 13 11 12,jf 14 11 3 1,ql 15 11 14,qt 16 11 .neq 13 15,yq 17 7 11 16,Ym 18 7 17,jf 19 18 4 2,Ws 20 18 19 3,jf 21 18 4 1,Ws 22 18 21 3,og 23 18 false (.eqs true [.b, .i .i64, .s] (T 20) (T 22)),yq 24 7 18 23,wp 25 7 24,wm 3 25]
def a8p:Z9:=(QR kH (QR kG .ret))
theorem oz:Zz prog OM=some (26,a8p,[.tmp 3]):=by kernel_rfl
@[simp]def kF:=[wz 0 1]
@[simp]def kE:=[oo 1 (.lit 1 5 [(0,(K 1)),(1,(K 2)),(2,(K 3)),(3,(K 4)),(4,(K 5))]),wm 0 1]
def Qs:Z9:=(QR kF (QR kE .ret))
theorem kD:Zz prog Mb=some (2,Qs,[.tmp 0]):=by kernel_rfl
@[simp]def kC:=[wx 3 0,wx 5 2,oo 6 (.alloc [zi])]
@[simp]def kB:=[ws 15 3 3,Y1 16 RZ 15,oo 7 (.alloc [.iv (.v (.pointer none))]),wo 7 16 1]
@[simp]def kA:=[wl 17 7,oo 18 (.peq false (T 17) (.const (.pointer none)))]
@[simp]def kz:=[on (.st (T 6) (K (-1)) 1)]
@[simp]def ky:=[oo 19 (.XD (false,[.i .i64],false)),oo 8 (.alloc [.iv (.v (.map none))]),wo 8 19 1]
@[simp]def kv:=[wl 20 7,Y1 21 Mi 20,wn 22 21,wk 23 0]
@[simp]def ku:=[wt 24 .lss 23 22]
@[simp]def kt:=[wi 25 1 21 23,wl 26 25,wm 10 26]
@[simp]def kr:=[wl 27 8,wm 28 10,on (.YI (false,[.i .i64],false) (T 27) (T 28) (K 1))]
@[simp]def kq:=[wc 29 .add 23 1,wm 23 29]
def KX:Z9:=
 (QR ku (Q (CX 24 0) (Q (.block 1 (QR kt (R kr))) (R kq))))
@[simp]def Cd:=[yf 30 1 3,wl 31 30,wn 32 31,wk 33 0]
@[simp]def Cc:=[wt 34 .lss 33 32]
@[simp]def Cb:=[wm 35 33,wi 36 22 31 33,ws 37 36 22,oo 11 (.alloc [zi]),oo 12 (.alloc [zi,zi,zi,zi,zb,zi,zs,zi,zi,zi, .nil 3,zi,zi,zb,zi,zs,zb,zi,zs, .nil 9, .nil 5,zb]),wo 11 35 1,wo 12 37 22]
@[simp]def Ca:=[wl 38 8,yf 39 0 12,wl 40 39,oo 41 (.UT (false,[.i .i64],false) [zi] (T 38) (T 40) false),wc 42 .eql 41 0,wm 43 42,ql 44 43 7,jf 45 43 0 12,ql 46 43 45,X2 47 43 HP 44 46,qm 48 43 1,qt 49 43 .lss 47 48,wq 50 43 49]
@[simp]def B9:=[ws 51 12 22,Y1 52 LW 51]
@[simp]def B8:=[oo 13 (.alloc [zb,zi,zs]),wo 13 53 3]
@[simp]def B7:=[oo 14 (.alloc [zi,zi]),wo 14 54 2]
@[simp]def B6:=[ws 55 14 2,oo 56 (.build [zi,zi] []),oo 57 (.eqs true [.i .i64, .i .i64] (T 55) (T 56)),wm 58 57,Yl 59 58 5,Yl 60 58 7,Yl 61 58 8,qs 62 58 12 22,qs 63 58 13 3,qs 64 58 14 2,og 65 58 true (.Yz (T 59) [(T 60),(T 61),(T 62),(T 63),(T 64)]),wp 66 58 65]
@[simp]def B5:=[wl 67 11,wo 6 67 1]
def Sm:Z9:=
 (QR B8 (R B7))
def Sl:Z9:=
 (.block 5 (QR B6 (CR 66 B5)))
@[simp]def B4:=[wc 68 .add 33 1,wm 33 68]
def KW:Z9:=
 (QR Cc (Q (CX 34 2) (Q (.block 3 (QR Cb (Q (QR Ca (CT 50 (.exit 3) .skip)) (QR B9 (.block 4 (.QY (T 52) [53,54] Sm Sl)))))) (R B4))))
@[simp]def B3:=[on (.st (T 6) (K (-1)) 1)]
def Qr:Z9:=(QR kC (QR kB (Q (QR kA (CR 18 kz)) (QR ky (Q (QR kv (.block 0 (.loop KX))) (Q (QR Cd (.block 2 (.loop KW))) (QR B3 .ret)))))))
theorem kp:Zz prog L9=some (69,Qr,[.cell 6 none]):=by kernel_rfl
@[simp]def ko:=[wx 7 2,wx 8 3,wx 9 4,wb 10 false]
@[simp]def kn:=[wm 11 1,yf 12 0 9,wl 13 12,oo 14 (.UT (false,[.i .i64],false) [zi] (T 11) (T 13) false),wc 15 .eql 14 0,wm 10 15]
def a2q:Z9:=(QR ko (QR kn .ret))
theorem km:Zz prog L8=some (16,a2q,[.tmp 10]):=by kernel_rfl
@[simp]def kj:=[wx 3 0,wk 6 0]
@[simp]def kh:=[ws 12 3 3,Y1 13 R2 12,wm 7 13]
@[simp]def kg:=[wm 14 7,wu 15 14]
@[simp]def kf:=[wk 6 (-1)]
@[simp]def ke:=[wk 8 0]
@[simp]def ka:=[wm 16 8,yf 17 1 3,wl 18 17,wn 19 18,wt 20 .lss 16 19]
@[simp]def j9:=[yf 23 1 3,wl 24 23,wm 25 8,wi 26 22 24 25,ws 27 26 22,oo 9 (.alloc [zi,zi,zi,zi,zb,zi,zs,zi,zi,zi, .nil 3,zi,zi,zb,zi,zs,zb,zi,zs, .nil 9, .nil 5,zb]),wo 9 27 22]
@[simp]def j8:=[ws 28 3 3,yf 29 0 9,wl 30 29,Y2 31 UL 28 30,wm 10 31]
@[simp]def j7:=[wm 32 10,wu 33 32,wm 34 33,Ws 35 34 3 3,jf 36 34 0 9,ql 37 34 36,X2 38 34 Ib 35 37,qm 39 34 1,qt 40 34 .lss 38 39,wq 41 34 40]
@[simp]def j6:=[yf 42 1 9,wl 43 42,wc 44 .eql 43 2,wm 45 44,qs 46 45 3 3,qs 47 45 9 22,qf 48 45 4 9,qs 49 45 48 3,qf 50 45 7 9,qs 51 45 50 2,Ym 52 45 2,u5 53 45 OE 46 47 49 51 52,wp 54 45 53]
@[simp]def B1:=[wm 55 8,wm 6 55]
@[simp]def B0:=[wk 11 0]
@[simp]def BZ:=[wm 56 11,yf 57 20 9,wl 58 57,wn 59 58,wt 60 .lss 56 59,wm 61 60,qf 62 61 1 9,Yl 63 61 62,Yc 64 61 .eql 63 4,wp 65 61 64]
@[simp]def BY:VT:=
 Ys 68 3 3<|Ys 69 9 22<|Yf 70 20 9<|yl 71 70<|ym 72 11<|yi 73 5 71 72<|Yf 74 0 73<|Ys 75 74 3<|Yf 76 20 9<|yl 77 76<|ym 78 11<|yi 79 5 77 78<|Yf 80 3 79<|Ys 81 80 2<|ym 82 2<|j5 83 OE 68 69 75 81 82<|.done
@[simp]def BX:=[wm 84 8,wm 6 84]
@[simp]def BW:=[wm 66 11,wc 67 .add 66 1,wm 11 67]
def VY:Z9:=
 (Q (QR BZ (CX 65 2)) (Q (.block 3 (Q (.any BY) (CR 83 BX))) (R BW)))
@[simp]def BV:=[wm 21 8,wc 22 .add 21 1,wm 8 22]
def Lz:Z9:=
 (Q (QR ka (CX 20 0)) (Q (.block 1 (QR j9 (QR j8 (Q (QR j7 (CT 41 (.exit 1) .skip)) (Q (QR j6 (CR 54 B1)) (QR B0 (.block 2 (.loop VY)))))))) (R BV)))
@[simp]def BU:=[wk 6 (-1)]
def c2u:Z9:=(QR kj (QR kh (Q (QR kg (CR 15 kf)) (Q (QR ke (.block 0 (.loop Lz))) (QR BU .ret)))))
theorem pQ:Zz prog L7=some (85,c2u,[.tmp 6]):=by kernel_rfl
@[simp]def j0:=[wx 7 2,wx 8 3,wx 9 4,wb 10 false]
@[simp]def jZ:=[wm 14 0,yf 15 3 7,wl 16 15,ws 17 8 3,yf 18 0 9,wl 19 18,yf 20 1 9,wl 21 20,wc 22 .add 21 1,oo 23 (.build [zi,zi] [(0,1,(T 19)),(1,1,(T 22))]),Y4 24 OL 14 16 17 23,wm 13 24,we 25 0 13,we 26 1 13,wm 11 25,wm 12 26]
@[simp]def jY:=[yf 27 0 9,wl 28 27,yf 29 0 7,wl 30 29,wt 31 .neq 28 30,wm 32 31,Ym 33 32 12,wp 34 32 33,wm 10 34]
def a4q:Z9:=(QR j0 (QR jZ (QR jY .ret)))
theorem jX:Zz prog L6=some (35,a4q,[.tmp 10]):=by kernel_rfl
@[simp]def jW:=[wx 1 0,oo 2 (.Td (.const .nilFunc))]
@[simp]def jV:=[oo 3 (.V6 RU [] [(T 1)]),wm 2 3]
def N0:Z9:=(QR jW (QR jV .ret))
theorem jU:Zz prog LW=some (4,N0,[.tmp 2]):=by kernel_rfl
@[simp]def jT:=[wx 5 0,wx 6 1,wx 7 2,wx 8 3,wb 10 false]
@[simp]def jS:=[oo 13 (.build [zi,zi] []),oo 11 (.alloc [zi,zi]),wo 11 13 2]
@[simp]def jR:=[ws 14 8 2,ws 15 11 2,oo 16 (.eqs false [.i .i64, .i .i64] (T 14) (T 15))]
@[simp]def jQ:=[wb 10 false]
@[simp]def jP:=[wm 17 4,wc 18 .eql 17 1]
@[simp]def jO:=[ws 19 5 3,yf 20 0 8,wl 21 20,Y2 22 UL 19 21,wu 23 22,wm 10 23]
@[simp]def jN:=[ws 24 5 3,yf 25 1 5,wl 26 25,wn 27 26,yf 28 0 8,wl 29 28,yf 30 3 6,wl 31 30,ws 32 7 3,Y5 33 Wz 24 27 29 31 32,wm 12 33]
@[simp]def jM:=[yf 34 0 8,wl 35 34,yf 36 0 6,wl 37 36,wt 38 .neq 35 37,wm 39 38,qf 40 39 1 8,Yl 41 39 40,Ym 42 39 12,Yt 43 39 .neq 41 42,wp 44 39 43,wm 10 44]
def c3u:Z9:=(QR jT (QR jS (Q (QR jR (CR 16 jQ)) (Q (QR jP (CR 18 jO)) (QR jN (QR jM .ret))))))
theorem pR:Zz prog OE=some (45,c3u,[.tmp 10]):=by kernel_rfl
@[simp]def jL:=[yf 5 1 1,wl 6 5,wc 7 .eql 6 2]
@[simp]def jK:=[wm 8 0,yf 9 4 1,ws 10 9 3,yf 11 7 1,ws 12 11 2,oo 13 (.Yz (T 8) [(T 10),(T 12)])]
@[simp]def jJ:=[yf 14 1 1,wl 15 14,wc 16 .neq 15 4]
@[simp]def jI:=[yf 17 20 1,wl 18 17,wn 19 18,wk 20 0]
@[simp]def jH:=[wt 21 .lss 20 19]
@[simp]def jG:=[wi 22 5 18 20,ws 23 22 5,oo 4 (.alloc [zb,zi,zs,zi,zi]),wo 4 23 5]
@[simp]def jF:=[wm 24 0,yf 25 0 4,ws 26 25 3,yf 27 3 4,ws 28 27 2,oo 29 (.Yz (T 24) [(T 26),(T 28)]),wu 30 29]
@[simp]def jE:=[wc 31 .add 20 1,wm 20 31]
def Gt:Z9:=
 (QR jH (Q (CX 21 0) (Q (.block 1 (QR jG (QR jF (CT 30 .ret .skip)))) (R jE))))
def a7q:Z9:=(Q (QR jL (CT 7 (R jK) .skip)) (Q (QR jJ (CT 16 .ret .skip)) (QR jI (.block 0 (.loop Gt)))))
theorem jD:Zz prog RU=some (32,a7q,[]):=by kernel_rfl
abbrev skF:Sk:=(false,[.i .i64],false)
def gF(f:Fm):List Value->Option (List IV)
 | [.int .i64 k]=>(XA f k).map fun i=>[ci i]
 | _=>none
theorem a7B{f:Fm}{k:Int}(h:XA f k=none)(i:Int):ZG (gF f) [.int .i64 k] (some [ci i])=gF (f++[(k,i)]):=by
 funext q
 simp only[ZG];split
 ·rename_i e;subst e;simp only[gF,b4p,h];simp
 ·rename_i ZS;unfold gF;split
  ·rename_i q';rw[b4p,if_neg (by rintro rfl;exact ZS rfl)];simp
  ·rfl
theorem a8B:(fun _=>none:List Value->Option (List IV))=gF []:=by
 funext q;unfold gF;split<;>rfl
def ZZ(l:List Eg)(ok:Eg->Bool):Gr where
 m:=l.length
 F:=fun k=>(l[k]?.map Eg.ZX).getD 0
 T:=fun k=>(l[k]?.map Eg.to).getD 0
 ok:=fun k=>(l[k]?.map ok).getD false
section
variable{l:List Eg}{ok:Eg->Bool}{k:Nat}{e:Eg}
theorem TC(h:l[k]? =some e):(ZZ l ok).F k=e.ZX:=by simp[ZZ,h]
theorem Ud(h:l[k]? =some e):(ZZ l ok).T k=e.to:=by simp[ZZ,h]
theorem qv(h:l[k]? =some e):(ZZ l ok).ok k=ok e:=by simp[ZZ,h]
end
def pick(l:List Eg)(p:List Nat):List Eg:=p.filterMap fun k=>l[k]?
theorem Ex{l:List Eg}{k:Nat}{e:Eg}(h:l[k]? =some e)(p:List Nat):pick l (k::p)=e::pick l p:=by simp[pick,h]
theorem a1C{l:List Eg}{k:Nat}{e:Eg}(h:l[k]? =some e)(p:List Nat):pick l (p++[k])=pick l p++[e]:=by simp[pick,h]
theorem OV(l:List Eg):pick l []=[]:=rfl
theorem a3C(l:List Eg)(p:List Nat):pick l p.reverse=(pick l p).reverse:=by simp[pick,List.filterMap_reverse]
theorem Jm{l:List Eg}:∀{p:List Nat},(∀k,k∈p->k<l.length)->(pick l p).length=p.length
 | [],_=>rfl
 |k::p,h=>by
  obtain⟨e,he⟩:=Zw (h k a8C);rw[Ex he,a3O,a3O,Jm fun x hx=>h x (a2C _ hx)]
theorem a5C{l:List Eg}:∀{p:List Nat} (_:∀k,k∈p->k<l.length) (i:Nat),(pick l p)[i]? =(p[i]?).bind fun k=>l[k]?
 | [],_,i=>by simp[pick]
 |k::p,h,i=>by
  obtain⟨e,he⟩:=Zw (h k a8C);rw[Ex he]
  cases i with
  |zero=>simp[he]
  |succ i=>simp only[a2I];exact a5C (fun x hx=>h x (a2C _ hx)) i
theorem a6C{l:List Eg}{ok:Eg->Bool}:∀{p:List Nat},(∀k,k∈p->k<l.length)->(pick l p).map Eg.to=p.map (ZZ l ok).T
 | [],_=>rfl
 |k::p,h=>by
  obtain⟨e,he⟩:=Zw (h k a8C);rw[Ex he,a0G,a0G,a6C (ok:=ok) fun x hx=>h x (a2C _ hx),Ud he]
theorem d4z{f:Fm}{k i:Int}(h:XA f k=some i):(k,i)∈f:=by
 unfold XA at h;obtain⟨p,h1,h2⟩:=a1S.1 h;have h3:=List.find?_some h1;have h4:=List.mem_of_find?_eq_some h1;simp only[decide_eq_true_eq]at h3;obtain⟨a,b⟩:=p;simp only at h2 h3;subst h2 h3;exact h4
theorem d5z{sz:Nat}{xs ys:List (List IV)}(h:xs.length<=ys.length):(Ob.list sz xs).le (Ob.list sz ys):=Ob.Se rfl rfl h
theorem d6z(xs:List Eg)(hl:xs.length<2^40):ZU prog false LN [.sl 20 8 0 xs.length] [(20, .list 8 (ZR xs))] (.Zp []) [(20, .list 8 (ZR xs.reverse))]:=
 (d3a xs hl).Zk (Ren.WD [(1000,20)]) rfl
abbrev oy(ks:List Int):AV:= .fn RV [] [.val (.pt [XJ ks])]
theorem d7z{l:List Eg}(ks:List Int)(x:Int)(Yy:0<l.length):ZU prog false T8 [.iv (Z5 l),vi x,vi x,oy ks] [] (.Zp [.iv (Z5 []),vb true]) []:=by
 refine e9q (by decide) FN (by simp) (by decide) ?_
 have e5R:ZG (fun _=>none) [Value.int .i64 x] (some [ci (-1)])=gF [(x, -1)]:=by
  rw[a8B];exact a7B (f:=[]) rfl (-1)
 have Xw:gF [(x, -1)] [.int .i64 x]=some [ci (-1)]:=by simp[gF,XA]
 simp-dsimp[Rs,e5R];refine Fi (fun k s=>k=0/\s=⟨[(11, .iv (.Z6 1 [[ci x]])),(10, .mpr 22),(12,vb true),(0, .iv (Z5 l)),(2,vi x)],[(22, .map skF (gF [(x, -1)]))]⟩) ⟨_,_,LeTo.le (D:=[26,8]) ?_,rfl,rfl⟩ ?_
 ·simp[Z5]
 ·rintro k s ⟨rfl,rfl⟩;simp-dsimp[Sf];refine Fi (fun k s=>k=0/\s=⟨[(20, .sl 20 8 0 0),(12,vb true),(10, .mpr 22),(21,vi x),(0, .iv (Z5 l))],[(20, .list 8 (ZR [])),(22, .map skF (gF [(x, -1)]))]⟩) ⟨_,_,LeTo.le (D:=[]) ?_,rfl,rfl⟩ ?_
  ·simp[ZR,Z5]
  ·rintro k s ⟨rfl,rfl⟩;simp-dsimp[U6,Xw];refine TB (d6z [] (by simp)) rfl (by simp) (by simp) (by simp) (by simp) (by simp) (by simp[d5z]) (by simp) ?_;simp-dsimp;exact⟨[20],by simp[JG,AV.Xj,Z5,ZR]⟩
def bkP(G:Gr)(s:Nat)(dst:Int)(k:Nat)(circle:List Int)(f:Fm)(res:Bool×Fm):Prop:=
 QV G dst k circle f=some res/\Lk G s f/\circle.length<=2^30
def MK(G:Gr)(n:Int)(q:Nat)(st:Fm×List Int):Fm×List Int:=N6 G n ((a0I G.m).take q) st
def qT(G:Gr)(dst n:Int)(q:Nat)(st:Fm×List Int):Bool×Fm×List Int:=Nr G dst n ((a0I G.m).drop q) st
theorem d0A{G:Gr}{j:Nat}(h:j<G.m)(n:Int)(st:Fm×List Int):MK G n (j+1) st=O2 G n (MK G n j st) j:=b4N h n st
theorem d1A{G:Gr}(n:Int)(st:Fm×List Int):MK G n G.m st=N6 G n (a0I G.m) st:=by
 unfold MK;rw[a2B (by simp)]
theorem d2A{G:Gr}(dst n:Int)(st:Fm×List Int):qT G dst n G.m st=(false,st):=by
 unfold qT;rw[c4V (by simp)];rfl
theorem d3A{G:Gr}{j:Nat}(h:j<G.m)(dst n:Int)(st:Fm×List Int):qT G dst n j st=
 if G.ok j=true/\G.F j=n/\XA st.1 (G.T j)=none then(if G.T j=dst then(true,O2 G n st j)else qT G dst n (j+1) (O2 G n st j))else qT G dst n (j+1) st:=b6N h dst n st
theorem d4A{l:List Eg}(
 hl:l.length<=2^30) (ks:List Int) (WZ:ks.length<2^62) {s:Nat} {e0:Eg} (I4:l[s]? =some e0) (ZS:e0.to≠e0.ZX) {K K2:Nat} {b:Bool} {g:Fm} {out:List Nat}
 (hb:QV (ZZ l (Zg ks)) e0.ZX K [e0.to] [(e0.to, -1)]=some (b,g)) (hc:b=true->Ll (ZZ l (Zg ks)) g K2 e0.ZX=some out) (hc2:b=false->out=[]) (ho:out.length<=2^30):
 ZU prog false T8 [.iv (Z5 l),vi e0.to,vi e0.ZX,oy ks] [] (.Zp [.iv (Z5 (pick l out.reverse)),vb b]) []:=by
 refine e9q (by decide) FN (by simp) (by decide) ?_;have hs:s<l.length:=(a7y.1 I4).1
 have e5R:ZG (fun _=>none) [Value.int .i64 e0.to] (some [ci (-1)])=gF [(e0.to, -1)]:=by
  rw[a8B];exact a7B (f:=[]) rfl (-1)
 generalize hG:ZZ l (Zg ks)=G at hb hc
 have hm:G.m=l.length:=by rw[<-hG];rfl
 have hF:∀{k:Nat} {e:Eg},l[k]? =some e->G.F k=e.ZX:=fun h=>by rw[<-hG];exact TC h
 have hT:∀{k:Nat} {e:Eg},l[k]? =some e->G.T k=e.to:=fun h=>by rw[<-hG];exact Ud h
 have ZY:∀{k:Nat} {e:Eg},l[k]? =some e->G.ok k=Zg ks e:=fun h=>by rw[<-hG];exact qv h
 simp-dsimp[Rs,e5R,ZS]
 refine Fi (fun k st=>∃(circle:List Int) (f:Fm),bkP G s e0.ZX k circle f (b,g)∧
  st=⟨[(11, .iv (.Z6 1 (Yj circle))),(10, .mpr 22),(12,vb false),(0, .iv (Z5 l)),(2,vi e0.ZX),(3,oy ks)],[(22, .map skF (gF f))]⟩) ⟨K,_,LeTo.le (D:=[26,8]) ?_,[e0.to],[(e0.to, -1)],⟨hb,⟨by simp,?_,?_⟩,by simp⟩,rfl⟩ ?_
 ·simp[Z5,Yj,ZS]
 ·intro x hx;simp only[a0G,List.map_nil,a2z]at hx;subst hx;exact a3E.2 ⟨s,a4U.2 (by rw[hm];exact hs),hT I4⟩
 ·intro k i hki;simp only[a2z,a6J]at hki;omega
 ·rintro k st ⟨circle,f,⟨h1,h3,h4⟩,rfl⟩
  by_cases Rc:circle=[]
  ·subst Rc
   have hr:b=false/\g=f:=by cases k<;>simp[QV]at h1<;>exact⟨h1.1,h1.2.symm⟩
   obtain⟨rfl,rfl⟩:=hr;have EC:=hc2 rfl;subst EC;simp-dsimp[Sf,Yj];refine Fi (fun k s=>k=0/\s=⟨[(20, .sl 20 8 0 0),(12,vb false)],[(20, .list 8 (ZR []))]⟩) ⟨_,_,LeTo.le (D:=[22]) ?_,rfl,rfl⟩ ?_
   ·simp[ZR]
   ·rintro k s ⟨rfl,rfl⟩;simp-dsimp[U6];refine TB (d6z [] (by simp)) rfl (by simp) (by simp) (by simp) (by simp) (by simp) (by simp[d5z]) (by simp) ?_;simp-dsimp;exact⟨[20],by simp[JG,AV.Xj,Z5,ZR,OV]⟩
  ·have Yy:=a6I.2 Rc;simp-dsimp[Sf,Rc,Yy]
   obtain⟨k,rfl⟩:∃m,k=m+1:=by
    cases k with
    |zero=>cases circle with
     |nil=>exact absurd rfl Rc
     |cons a b=>simp[QV]at h1
    |succ m=>exact⟨m,rfl⟩
   have Ra:(if(Nq G e0.ZX circle (f,[])).1=true then some (true,(Nq G e0.ZX circle (f,[])).2.1)else QV G e0.ZX k (WM G circle (f,[])).2 (WM G circle (f,[])).1)=some (b,g):=by
    cases circle with
    |nil=>exact absurd rfl Rc
    |cons a b=>exact h1
   have f4m:∀j,ER G s f.length (WM G (circle.take j) (f,[])):=fun j=>b0O _ ⟨h3,by simp⟩
   refine YZ [] [] circle.length (fun j=>⟨[(39,vi j),(38,vi circle.length),(37, .iv (.Z6 1 (Yj circle))),(13, .sl 13 1 0 (WM G (circle.take j) (f,[])).2.length),(10, .mpr 22),(12,vb false),(0, .iv (Z5 l)),(2,vi e0.ZX),(3,oy ks)],
    [(13, .list 1 (Yj (WM G (circle.take j) (f,[])).2)),(22, .map skF (gF (WM G (circle.take j) (f,[])).1))]⟩)
    (fun j=>Nq G e0.ZX (circle.drop j) (WM G (circle.take j) (f,[]))=Nq G e0.ZX circle (f,[])) ?_ ?_ ?_
   ·simp[WM,Yj,Z5]
   ·simp[WM]
   ·intro j hj hQ
    by_cases RO:j<circle.length
    ·obtain⟨n,hn⟩:=Zw RO;rw[b7N hn]at hQ;have Zy:=b5N (G:=G) hn (f,[]);have Ri:=f4m j;generalize YL:WM G (circle.take j) (f,[])=st at*;obtain⟨f1,nx⟩:=st;have hjw:=Zo (n:=(j:Int)+1) (by omega);simp-dsimp[Pg,hn];refine⟨fun _=>?_,fun h=>absurd h (by omega)⟩
     refine YZ [] [17,79] l.length (fun q=>⟨[(45,vi q),(44,vi l.length),(43, .iv (Z5 l)),(15,vi n),(39,vi j),(38,vi circle.length),(37, .iv (.Z6 1 (Yj circle))),
      (13, .sl 13 1 0 (MK G n q (f1,nx)).2.length),(10, .mpr 22),(12,vb false),(0, .iv (Z5 l)),(2,vi e0.ZX),(3,oy ks)],
      [(13, .list 1 (Yj (MK G n q (f1,nx)).2)),(22, .map skF (gF (MK G n q (f1,nx)).1))]⟩)
      (fun q=>qT G e0.ZX n q (MK G n q (f1,nx))=Nr G e0.ZX n (a0I G.m) (f1,nx)) ?_ ?_ ?_
     ·simp[MK,N6,Z5]
     ·simp[MK,N6,qT]
     ·intro q hq QS
      by_cases VG:q<l.length
      ·obtain⟨e,he⟩:=Zw VG;rw[d3A (by rw[hm];exact VG)]at QS;have qS:=d0A (G:=G) (j:=q) (by rw[hm];exact VG) n (f1,nx);have hcq:ER G s f.length (MK G n q (f1,nx)):=b9N _ (fun x hx=>a4U.1 (List.mem_of_mem_take hx)) Ri;have hcs:=b8N (n:=n) (k:=q) (by rw[hm];exact VG) hcq;generalize g6o:MK G n q (f1,nx)=st2 at*;obtain⟨f2,nx2⟩:=st2
       have f5m:=hcq.len;simp only at f5m;have Jw:=Zo (n:=(q:Int)+1) (by omega);rw[hF he,hT he,ZY he]at QS
       have W8:O2 G n (f2,nx2) q=if Zg ks e=true/\e.ZX=n/\XA f2 e.to=none then(f2++[(e.to,(q:Int))],nx2++[e.to])else(f2,nx2):=by
        unfold O2;rw[hF he,hT he,ZY he]
       by_cases Sy:e.ZX=n
       ·cases hk:Zg ks e with
        |false=>
         rw[hk]at W8 QS;simp only[a5M,false_and,if_false]at W8 QS;rw[W8]at qS;simp-dsimp[VQ,Z5,he,Eg.cells,Sy,Zc];refine⟨fun _=>?_,fun h=>absurd h (by omega)⟩;refine⟨e3m,O8 (e4m ks WZ e) (by simp) (by simp[Eg.av,Eg.cells,Sy]) (by simp[Eg.av,Eg.cells]) ?_⟩;simp-dsimp[hk,Jw,qS];exact⟨VG,QS⟩
        |true=>
         rw[hk,Sy]at W8 QS;simp only[true_and]at W8 QS
         cases hf:XA f2 e.to with
         |some z=>
          rw[hf]at W8 QS;simp only[reduceCtorEq,if_false]at W8 QS;rw[W8]at qS
          have IY:gF f2 [.int .i64 e.to]=some [ci z]:=by simp[gF,hf]
          simp-dsimp[VQ,Z5,he,Eg.cells,Sy,Zc];refine⟨fun _=>?_,fun h=>absurd h (by omega)⟩;refine⟨e3m,O8 (e4m ks WZ e) (by simp) (by simp[Eg.av,Eg.cells,Sy]) (by simp[Eg.av,Eg.cells]) ?_⟩;simp-dsimp[hk,Jw,qS,IY];exact⟨VG,QS⟩
         |none=>
          rw[hf]at W8 QS;simp only[if_true]at W8 QS;rw[W8]at qS hcs QS
          have IY:gF f2 [.int .i64 e.to]=none:=by simp[gF,hf]
          have Jx:=a7B hf q
          by_cases hd:e.to=e0.ZX
          ·simp only[hd,if_true]at QS;rw[hd]at IY Jx;simp-dsimp[VQ,Z5,he,Eg.cells,Sy,Zc];refine⟨fun _=>?_,fun h=>absurd h (by omega)⟩;refine⟨e3m,O8 (e4m ks WZ e) (by simp) (by simp[Eg.av,Eg.cells,Sy]) (by simp[Eg.av,Eg.cells]) ?_⟩;simp-dsimp[hk,Jw,IY,Jx,hd];rw[<-QS]at hQ;simp only[if_true]at hQ;rw[<-hQ]at Ra
           simp only[if_true,a5y,a6J]at Ra;obtain⟨rT,hg9⟩:=Ra;have hcg:=hcs.1;rw[hd]at hcg
           have hg:∀k i,(k,i)∈g->i<l.length:=fun k i hi=>by rw[<-hg9]at hi;have:=hcg.val k i hi;rw[hm]at this;exact this
           rw[hg9];subst rT;have hc:=hc rfl
           refine Fi (fun k s=>∃(pre rest:List Nat) (cur:Int),Ll G g k cur=some rest/\out=pre++rest/\(∀x,x∈pre->x<l.length)∧
            s=⟨[(20, .sl 20 8 0 pre.length),(12,vb true),(10, .mpr 22),(21,vi cur),(0, .iv (Z5 l))],[(20, .list 8 (ZR (pick l pre))),(22, .map skF (gF g))]⟩) ⟨K2,_,LeTo.le (D:=[17,13]) ?_,[],out,_,hc,rfl,by simp,rfl⟩ ?_
           ·simp[OV,ZR,Z5]
           ·rintro k s ⟨pre,rest,cur,g1,g2,g3,rfl⟩
            obtain⟨b,hb,DY,Xw⟩:∃b:Int,(XA g cur).getD 0=b/\b<l.length/\(gF g [.int .i64 cur]=some [ci b]\/(gF g [.int .i64 cur]=none/\b=0)):=by
             cases hf:XA g cur with
             |none=>exact⟨0,rfl,by omega, .inr ⟨by simp[gF,hf],rfl⟩⟩
             |some b=>exact⟨b,rfl,hg cur b (d4z hf), .inl (by simp[gF,hf])⟩
            have UN:(pick l pre).length=pre.length:=Jm g3
            by_cases e6R:b<0
            ·have OX:rest=[]:=by
              cases k<;>simp only[Ll,hb,e6R,if_true,a5y]at g1<;>exact g1.symm
             have X3:¬0<=b:=by omega
             subst OX;rw[b2y]at g2;subst g2
             rcases Xw with Xw|⟨_,rfl⟩
             ·simp-dsimp[U6,Xw,X3];refine TB (by have h:=d6z (pick l out) (by omega);rw[UN]at h;exact h) rfl (by simp) (by simp) (by simp) (by simp) (by simp) (by simp[d5z]) (by simp) ?_
              simp-dsimp;exact⟨[20],by simp[JG,AV.Xj,Z5,a3C,UN,a2B (show(ZR (pick l out).reverse).length<=out.length by simp[UN])]⟩
             ·omega
            ·obtain⟨k,rfl⟩:∃m,k=m+1:=by
              cases k with
              |zero=>simp[Ll,hb,e6R]at g1
              |succ m=>exact⟨m,rfl⟩
             have X3:0<=b:=by omega
             simp only[Ll,hb,e6R,if_false]at g1;obtain⟨qR,g4,rfl⟩:=a1S.1 g1;obtain⟨b,rfl⟩:∃n:Nat,b=n:=⟨b.toNat,by omega⟩;obtain⟨e,he⟩:=Zw (l:=l) (i:=b) (by omega);rw[Int.toNat_natCast]at g4 g2;rw[hF he]at g4
             have hlen:pre.length<=2^30:=by rw[g2]at ho;simp at ho;omega
             have f6m:b<l.length:=by omega
             rcases Xw with Xw|⟨Xw,T4⟩
             ·simp-dsimp[U6,Xw,Z5,he,Eg.cells,UN];refine⟨by omega,by omega,k,by omega,_,LeTo.le (D:=[106]) ?_,pre++[b],qR,_,g4,by simp[g2],?_,rfl⟩
              ·simp[a1C he,ZR,Eg.cells]
              ·intro x hx
               rcases a1E.1 hx with hx|hx
               ·exact g3 x hx
               ·rw[a2z.1 hx];exact f6m
             ·have T4:b=0:=by omega
              subst T4;simp-dsimp[U6,Xw,Z5,he,Eg.cells,UN];refine⟨by omega,by omega,k,by omega,_,LeTo.le (D:=[106]) ?_,pre++[0],qR,_,g4,by simp[g2],?_,rfl⟩
              ·simp[a1C he,ZR,Eg.cells]
              ·intro x hx
               rcases a1E.1 hx with hx|hx
               ·exact g3 x hx
               ·rw[a2z.1 hx];exact f6m
          ·simp only[hd,if_false]at QS;simp-dsimp[VQ,Z5,he,Eg.cells,Sy,Zc];refine⟨fun _=>?_,fun h=>absurd h (by omega)⟩;refine⟨e3m,O8 (e4m ks WZ e) (by simp) (by simp[Eg.av,Eg.cells,Sy]) (by simp[Eg.av,Eg.cells]) ?_⟩;simp-dsimp[hk,Jw,IY,Jx,hd,qS];exact⟨by omega,by omega,VG,by simp[Yj],QS⟩
       ·have O1:¬(Zg ks e=true/\e.ZX=n/\XA f2 e.to=none):=fun h=>Sy h.2.1
        rw[if_neg O1]at W8 QS;rw[W8]at qS;simp-dsimp[VQ,Z5,he,Eg.cells,Sy,Zc,Jw,qS];exact⟨fun _=>⟨VG,QS⟩,fun h=>absurd h (by omega)⟩
      ·have hqe:q=l.length:=by omega
       subst hqe
       have rr:qT G e0.ZX n l.length (MK G n l.length (f1,nx))=(false,MK G n l.length (f1,nx)):=by rw[<-hm];exact d2A _ _ _
       have TL:MK G n l.length (f1,nx)=N6 G n (a0I G.m) (f1,nx):=by rw[<-hm];exact d1A _ _
       rw[rr]at QS
       have OW:(Nr G e0.ZX n (a0I G.m) (f1,nx)).1=false:=by rw[<-QS]
       rw[if_neg (by rw[OW];simp)]at hQ;rw[TL];simp-dsimp[VQ,hjw,Zy];exact⟨RO,hQ⟩
    ·have ru:j=circle.length:=by omega
     subst ru;have Ri:=f4m circle.length;rw[c4b]at hQ;simp only[Nq,a7I]at hQ;simp only[a7I]at Ri;rw[<-hQ]at Ra;simp only[a5M,if_false]at Ra;simp-dsimp[Pg];refine⟨k,by omega,_,LeTo.le (D:=[13]) ?_,(WM G circle (f,[])).2,(WM G circle (f,[])).1,⟨Ra,Ri.1,by have:=Ri.len;omega⟩,rfl⟩;simp[Z5]
     exact a2B (by simp)
theorem c7a{l:List Eg}(hl:l.length<=2^30)(ks:List Int)(WZ:ks.length<2^62){s:Nat}{e0:Eg}(I4:l[s]? =some e0):
 ZU prog false T8 [.iv (Z5 l),vi e0.to,vi e0.ZX,oy ks] [] (.Zp [.iv (Z5 (pick l (XG (ZZ l (Zg ks)) s).tail)),vb (decide (XG (ZZ l (Zg ks)) s≠[]))]) []:=by
 have hs:s<l.length:=(a7y.1 I4).1;have hF:=TC (ok:=Zg ks) I4;have hT:=Ud (ok:=Zg ks) I4
 by_cases ZS:e0.to=e0.ZX
 ·have hc:XG (ZZ l (Zg ks)) s=[s]:=b4M (by rw[hF,hT];exact ZS);have:=d7z (l:=l) ks e0.ZX (by omega);rw[hc,ZS];simpa[OV]using this
 ·obtain⟨K,b,g,h1,h2⟩:=b7M (G:=ZZ l (Zg ks)) (s:=s) hs (by rw[hF,hT];exact ZS);rw[hF,hT]at h1
  rcases h2 with⟨rfl,hc⟩|⟨rfl,K2,h3,D,hw⟩
  ·have:=d4A hl ks WZ I4 ZS (K2:=0) (out:=[]) h1 (fun h=>by cases h) (fun _=>rfl) (by simp);rw[hc];simpa[OV]using this
  ·rw[hF]at h3;have ZV:=hw.lt;have hlen:=hw.len
   have:=d4A hl ks WZ I4 ZS (K2:=K2) (out:=(XG (ZZ l (Zg ks)) s).tail.reverse) h1 (fun _=>h3) (fun h=>by cases h) (by
    rw[List.length_reverse,d3v,hlen];have:(ZZ l (Zg ks)).m=l.length:=rfl
    omega)
   rw[List.reverse_reverse]at this;simpa[hw.ne]using this
def Wg(l:List Eg)(ks:List Int)(i:Nat):Bool:=(l[i]?.map (Zg ks)).getD false
def ZL(l:List Eg)(fs rs:List Int):List Eg:=pick l (JE (ZZ l (Zg rs)) (Wg l fs))
theorem c8a{l:List Eg}{ok:Eg->Bool}{s:Nat}{e:Eg}(he:l[s]? =some e)(h:XG (ZZ l ok) s≠[]):pick l (XG (ZZ l ok) s)=e::pick l (XG (ZZ l ok) s).tail:=by
 obtain⟨D,hw,_⟩:=qC (a7y.1 he).1 h;have hh:=hw.head
 cases hc:XG (ZZ l ok) s with
 |nil=>exact absurd hc h
 |cons a r=>
  rw[hc]at hh;simp only[List.head?_cons,a5y]at hh;subst hh;exact Ex he r
theorem c9a{l:List Eg}{ok:Eg->Bool}{first:Nat->Bool}{i:Nat}(hi:i<l.length)(hf:first i=true)(hn:ZH i fun j=>first j=true->XG (ZZ l ok) j=[])(h:XG (ZZ l ok) i≠[]):JE (ZZ l ok) first=XG (ZZ l ok) i:=by
 unfold JE
 have e:(if first i then XG (ZZ l ok) i else[])=XG (ZZ l ok) i:=by rw[hf];rfl
 rw[b1p (n:=(ZZ l ok).m) (i:=i) (fun j hj=>?_) hi (by rw[e];exact h),e]
 cases Qv:first j with
 |false=>rfl
 |true=>exact hn j hj Qv
theorem c0b{l:List Eg}{ok:Eg->Bool}{first:Nat->Bool}(hn:ZH l.length fun j=>first j=true->XG (ZZ l ok) j=[]):JE (ZZ l ok) first=[]:=by
 unfold JE
 refine b0p _ fun j hj=>?_
 cases Qv:first j with
 |false=>rfl
 |true=>exact hn j hj Qv
theorem c1b{l:List Eg}(hl:l.length<=2^30){ok:Eg->Bool}{s:Nat}(hs:s<l.length):(pick l (XG (ZZ l ok) s).tail).length<=2^30:=by
 by_cases h:XG (ZZ l ok) s=[]
 ·rw[h];simp[pick]
 ·obtain⟨D,hw,_⟩:=qC (G:=ZZ l ok) hs h;have h1:=hw.lt;have h2:=hw.len;have h3:(ZZ l ok).m=l.length:=rfl;rw[Jm fun x hx=>hw.Xq x (List.mem_of_mem_tail hx),d3v,h2];omega
theorem c2b{l:List Eg}(hl:l.length<=2^30){fs rs:List Int}(sv:fs.length<2^62)(hrs:rs.length<2^62):
 ZU prog false RY [.iv (Z5 l), .iv (XJ fs), .iv (XJ rs)] [] (.iv (Z5 (ZL l fs rs))) []:=by
 refine TK ox (by simp) (by decide) ?_;simp-dsimp[a4l];refine Yk (e6m fs 13) rfl (by simp[XJ]) (by simp) (by simp) (by simp) ?_;simp-dsimp
 refine YZ [6,13] [9,31] l.length (fun i=>⟨[(16,vi i),(15,vi l.length),(14, .iv (Z5 l)),(7,oy fs),(0, .iv (Z5 l)),(2, .iv (XJ rs))],[]⟩)
  (fun i=>ZH i fun j=>Wg l fs j=true->XG (ZZ l (Zg rs)) j=[]) ?_ Tn ?_
 ·simp[Z5]
 ·intro i hi hq
  by_cases Zb:i<l.length
  ·obtain⟨e,he⟩:=Zw Zb
   have hf:Wg l fs i=Zg fs e:=by simp[Wg,he]
   have hw:=Zo (n:=(i:Int)+1) (by omega);simp-dsimp[PY,Z5,he,Eg.cells,Zc];refine⟨fun _=>?_,fun h=>absurd h (by omega)⟩;refine⟨e3m,O8 (e4m fs sv e) (by simp) (by simp[Eg.av,Eg.cells]) (by simp[Eg.av,Eg.cells]) ?_⟩
   cases hk:Zg fs e with
   |false=>
    simp-dsimp[hw];exact⟨Zb,hq.succ fun h=>by rw[hf,hk]at h;cases h⟩
   |true=>
    simp-dsimp;have UN:=c1b (ok:=Zg rs) hl Zb;refine⟨⟨?_,?_⟩,⟨?_,?_⟩,?_⟩
    all_goals
     refine Yk (e6m rs 31) rfl (by simp[XJ]) (by simp) (by simp) (by simp) ?_;simp-dsimp;refine o9 (QZ [31] (by decide) _) ?_;refine Yk (c7a hl rs hrs he) rfl (by simp[Z5]) (by simp) (by simp) (by simp) ?_
     by_cases Pa:XG (ZZ l (Zg rs)) i=[]
     ·simp-dsimp[Pa,hw];exact⟨Zb,hq.succ fun _=>Pa⟩
     ·have hfd:ZL l fs rs=e::pick l (XG (ZZ l (Zg rs)) i).tail:=by
       unfold ZL;rw[c9a Zb (by rw[hf];exact hk) hq Pa,c8a he Pa]
      have ht:a7U (pick l (XG (ZZ l (Zg rs)) i).tail).length (d2g Eg.cells (pick l (XG (ZZ l (Zg rs)) i).tail))=d2g Eg.cells (pick l (XG (ZZ l (Zg rs)) i).tail):=a2B (by simp);simp-dsimp[Pa,Z5];exact⟨by omega,by omega,[37,9],by simp[YR,AV.Xj,hfd,ZR,Eg.cells,Nat.add_comm 1,ht]⟩
  ·have Vp:i=l.length:=by omega
   subst Vp;simp-dsimp[PY,Z5];exact⟨[6],by simp[YR,AV.Xj,ZL,c0b hq,OV,ZR]⟩
def UF(b:Int):List IV:=[ci b,cb false,ci 0,cb false,ci 0, .v (.string ⟨#[]⟩),cb false]
inductive Bk:Int->List Int->Prop
 |any:Bk 62 [1,2,3,4,5]
 |ww:Bk 2 [1]
 |rw:Bk 16 [4]
 |On:Bk 14 [1,2,3]
 |W0:Bk 48 [4,5]
theorem Bk.out{b:Int}{ks:List Int}(h:Bk b ks){x:Int}(hx:x<1\/5<x):x∉ks:=by
 cases h<;>simp<;>omega
theorem c9j:YY .shr (.int .i64 62) (.int .u64 (IntKind.u64.wrap 1))=some (.int .i64 31):=by kernel_rfl
theorem c0k:YY .shr (.int .i64 62) (.int .u64 (IntKind.u64.wrap 2))=some (.int .i64 15):=by kernel_rfl
theorem c1k:YY .shr (.int .i64 62) (.int .u64 (IntKind.u64.wrap 3))=some (.int .i64 7):=by kernel_rfl
theorem c2k:YY .shr (.int .i64 62) (.int .u64 (IntKind.u64.wrap 4))=some (.int .i64 3):=by kernel_rfl
theorem c3k:YY .shr (.int .i64 62) (.int .u64 (IntKind.u64.wrap 5))=some (.int .i64 1):=by kernel_rfl
theorem c4k:YY .shr (.int .i64 2) (.int .u64 (IntKind.u64.wrap 1))=some (.int .i64 1):=by kernel_rfl
theorem c5k:YY .shr (.int .i64 2) (.int .u64 (IntKind.u64.wrap 2))=some (.int .i64 0):=by kernel_rfl
theorem c6k:YY .shr (.int .i64 2) (.int .u64 (IntKind.u64.wrap 3))=some (.int .i64 0):=by kernel_rfl
theorem c7k:YY .shr (.int .i64 2) (.int .u64 (IntKind.u64.wrap 4))=some (.int .i64 0):=by kernel_rfl
theorem c8k:YY .shr (.int .i64 2) (.int .u64 (IntKind.u64.wrap 5))=some (.int .i64 0):=by kernel_rfl
theorem c9k:YY .shr (.int .i64 16) (.int .u64 (IntKind.u64.wrap 1))=some (.int .i64 8):=by kernel_rfl
theorem c0l:YY .shr (.int .i64 16) (.int .u64 (IntKind.u64.wrap 2))=some (.int .i64 4):=by kernel_rfl
theorem c1l:YY .shr (.int .i64 16) (.int .u64 (IntKind.u64.wrap 3))=some (.int .i64 2):=by kernel_rfl
theorem c2l:YY .shr (.int .i64 16) (.int .u64 (IntKind.u64.wrap 4))=some (.int .i64 1):=by kernel_rfl
theorem c3l:YY .shr (.int .i64 16) (.int .u64 (IntKind.u64.wrap 5))=some (.int .i64 0):=by kernel_rfl
theorem c4l:YY .shr (.int .i64 14) (.int .u64 (IntKind.u64.wrap 1))=some (.int .i64 7):=by kernel_rfl
theorem c5l:YY .shr (.int .i64 14) (.int .u64 (IntKind.u64.wrap 2))=some (.int .i64 3):=by kernel_rfl
theorem c6l:YY .shr (.int .i64 14) (.int .u64 (IntKind.u64.wrap 3))=some (.int .i64 1):=by kernel_rfl
theorem c7l:YY .shr (.int .i64 14) (.int .u64 (IntKind.u64.wrap 4))=some (.int .i64 0):=by kernel_rfl
theorem c8l:YY .shr (.int .i64 14) (.int .u64 (IntKind.u64.wrap 5))=some (.int .i64 0):=by kernel_rfl
theorem c9l:YY .shr (.int .i64 48) (.int .u64 (IntKind.u64.wrap 1))=some (.int .i64 24):=by kernel_rfl
theorem c0m:YY .shr (.int .i64 48) (.int .u64 (IntKind.u64.wrap 2))=some (.int .i64 12):=by kernel_rfl
theorem c2m:YY .shr (.int .i64 48) (.int .u64 (IntKind.u64.wrap 3))=some (.int .i64 6):=by kernel_rfl
theorem c3m:YY .shr (.int .i64 48) (.int .u64 (IntKind.u64.wrap 4))=some (.int .i64 3):=by kernel_rfl
theorem c4m:YY .shr (.int .i64 48) (.int .u64 (IntKind.u64.wrap 5))=some (.int .i64 1):=by kernel_rfl
theorem c5m{b:Int}{ks:List Int}(h:Bk b ks)(e:Eg):ZU prog true LY [.agg ((UF b).map .iv),e.av] [] (vb (Zg ks e)) []:=by
 refine YD oq (by simp) (by decide) rfl ?_
 by_cases h1:e.kind<1
 ·have hk:Zg ks e=false:=by simpa[Zg]using h.out (.inl h1)
  simp-dsimp[a5m,Eg.av,Eg.cells,UF,h1,hk]
 ·by_cases h2:5<e.kind
  ·have hk:Zg ks e=false:=by simpa[Zg]using h.out (.inr h2)
   simp-dsimp[a5m,Eg.av,Eg.cells,UF,h1,h2,hk]
  ·have:e.kind=1\/e.kind=2\/e.kind=3\/e.kind=4\/e.kind=5:=by omega
   rcases this with he|he|he|he|he<;>cases h<;>
    simp-dsimp[a5m,Eg.av,Eg.cells,UF,he,Zg,c9j,c0k,c1k,c2k,c3k,c4k,c5k,c6k,c7k,c8k,c9k,c0l,c1l,c2l,c3l,c4l,c5l,c6l,c7l,c8l,c9l,c0m,c2m,c3m,c4m]<;>decide
variable{l:List Eg}{ok:Eg->Bool}
theorem c6m{p:List Nat}(hp:∀k,k∈p->k<l.length)(ZS:p≠[]):∃e,(pick l p)[p.length-1]? =some e/\e.to=nd (ZZ l ok) p:=by
 obtain⟨q,k,rfl⟩:∃q k,p=q++[k]:=⟨p.dropLast,p.getLast ZS,(c0R ZS).symm⟩;obtain⟨e,he⟩:=Zw (hp k (by simp));refine⟨e,?_,?_⟩
 ·rw[a5C hp];simp[he]
 ·rw[Qj,Ud he]
theorem c7m{p:List Nat}(hp:∀k,k∈p->k<l.length)(ZS:p≠[]):∃e,(pick l p)[0]? =some e/\e.ZX=(ZZ l ok).F (p.headD 0):=by
 cases p with
 |nil=>exact absurd rfl ZS
 |cons k q=>
  obtain⟨e,he⟩:=Zw (hp k (by simp));exact⟨e,by rw[Ex he];rfl,(TC he).symm⟩
theorem c8m(p:List Nat):Yr (ZZ l ok) 0 p=if nd (ZZ l ok) p=(ZZ l ok).F (p.headD 0)then p else[]:=rfl
theorem c9m(n:Nat)(p:List Nat):Yr (ZZ l ok) (n+1) p=Vn (fun k=>if c1 (G:=ZZ l ok) p k then Yr (ZZ l ok) n (p++[k])else[]) l.length:=rfl
theorem c0n:∀(n:Nat) {p:List Nat},(∀k,k∈p->k<l.length)->∀k,k∈Yr (ZZ l ok) n p->k<l.length:=by
 intro n
 induction n with
 |zero=>
  intro p hp k hk;rw[c8m]at hk;split at hk
  ·exact hp k hk
  ·cases hk
 |succ n ih=>
  intro p hp k hk;rw[c9m]at hk;obtain⟨i,hi,h2,_⟩:=b3p (b9Q hk);rw[h2]at hk;split at hk
  ·refine ih (fun x hx=>?_) k hk
   rcases a1E.1 hx with hx|hx
   ·exact hp x hx
   ·rw[a2z.1 hx];exact hi
  ·cases hk
theorem c1n:∀(n:Nat) {p:List Nat},(Yr (ZZ l ok) n p).length<=p.length+n:=by
 intro n
 induction n with
 |zero=>intro p;rw[c8m];split<;>simp
 |succ n ih=>
  intro p;rw[c9m]
  by_cases h:Vn (fun k=>if c1 (G:=ZZ l ok) p k then Yr (ZZ l ok) n (p++[k])else[]) l.length=[]
  ·rw[h];simp
  ·obtain⟨i,hi,h2,_⟩:=b3p h;rw[h2];split
   ·have:=ih (p:=p++[i]);simp at this;omega
   ·simp
theorem f3k{p:List Nat}{k:Nat}{e:Eg}(hp:∀k,k∈p->k<l.length)(he:l[k]? =some e):c1 (G:=ZZ l ok) p k=decide (ok e=true/\e.ZX=nd (ZZ l ok) p/\e.to∉(pick l p).map Eg.to):=by
 simp only[c1,qv he,TC he,Ud he,a6C (ok:=ok) hp]
theorem c2n{b:Int}{ks:List Int}(hb:Bk b ks)(hl:l.length<=2^30):∀(n:Nat) {p:List Nat},p≠[]->(∀k,k∈p->k<l.length)->p.length+n<=2^30->
 ZU prog false LX [.iv (Z5 l), .iv (Z5 (pick l p)), .agg ((UF b).map .iv),vi n] [] (.iv (Z5 (pick l (Yr (ZZ l (Zg ks)) n p)))) []:=by
 intro n
 induction n with
 |zero=>
  intro p ZS hp hlen;have UN:=Jm hp;have Yy:=a6I.2 ZS;obtain⟨e,he,heT⟩:=c6m (ok:=Zg ks) hp ZS;obtain⟨e2,GF,heF⟩:=c7m (ok:=Zg ks) hp ZS;rw[c8m, <-heT, <-heF];refine TK GB (by simp) (by decide) ?_;obtain⟨j,hj⟩:∃j,p.length-1=j:=⟨_,rfl⟩;rw[hj]at he;have hw:=Zo (n:=(j:Int)) (by omega)
  have hi:(p.length:Int)-1=j:=by omega
  simp-dsimp[e0e,Z5,UF,UN,hw,hi,he,GF,Eg.cells,Zc];refine⟨fun hq=>⟨[9,6],by simp[YR,AV.Xj,hq,ZR]⟩,fun hq=>⟨[8,9,6],by simp[YR,AV.Xj,hq,ZR,OV]⟩⟩
 |succ n ih=>
  intro p ZS hp hlen;have UN:=Jm hp;have Yy:=a6I.2 ZS;obtain⟨e,he,heT⟩:=c6m (ok:=Zg ks) hp ZS;refine TK GB (by simp) (by decide) ?_;obtain⟨j,hj⟩:∃j,p.length-1=j:=⟨_,rfl⟩;rw[hj]at he;have hw:=Zo (n:=(j:Int)) (by omega)
  have hi:(p.length:Int)-1=j:=by omega
  have E4:=Zo (n:=((n+1:Nat):Int)-1) (by omega);simp-dsimp[e0e,Z5,UF,UN,hw,hi,he,Eg.cells,Zc];refine⟨fun h=>absurd h (by omega),fun _=>?_⟩
  refine YZ [8] [11] l.length (fun i=>⟨[(10,vi i),(9, .ptr 9 0),(6, .ptr 6 0),(0, .iv (Z5 l)),(1, .iv (Z5 (pick l p))),(3,vi ((n:Int)+1))],[(9, .box (e.cells.map .iv)),(6, .box ((UF b).map .iv))]⟩)
   (fun i=>Vn (fun k=>if c1 (G:=ZZ l (Zg ks)) p k then Yr (ZZ l (Zg ks)) n (p++[k])else[]) i=[]) ?_ rfl ?_
  ·simp[Eg.cells,UF,Z5]
  ·intro i hi hq
   by_cases Zb:i<l.length
   ·obtain⟨e1,NK⟩:=Zw Zb;have Ri:=f3k (ok:=Zg ks) hp NK;have Re:=b7o hq;have SC:=Zo (n:=(i:Int)+1) (by omega);simp-dsimp[PV,Z5,NK,Eg.cells,Zc,UF];refine⟨fun _=>?_,fun h=>absurd h (by omega)⟩;refine Zu (c5m hb e1) (by simp[UF,Eg.av,Eg.cells]) (by simp[Eg.av,Eg.cells,UF]) ?_
    cases hk:Zg ks e1 with
    |false=>
     have hcf:c1 (G:=ZZ l (Zg ks)) p i=false:=by rw[Ri,hk];simp
     rw[hcf]at Re;simp-dsimp[SC];exact⟨Zb,Re⟩
    |true=>
     by_cases Sy:e1.ZX=e.to
     ·simp-dsimp[Sy];refine Zu (d:=57) (e2m (pick l p) (by omega) e1.to) (by simp[Z5]) (by simp[Z5]) ?_
      cases hm:decide (e1.to∈(pick l p).map Eg.to)with
      |true=>
       have hcf:c1 (G:=ZZ l (Zg ks)) p i=false:=by rw[Ri];simp only[decide_eq_true_eq]at hm;simp[hm]
       rw[hcf]at Re;simp-dsimp[SC];exact⟨Zb,Re⟩
      |false=>
       have hct:c1 (G:=ZZ l (Zg ks)) p i=true:=by
        rw[Ri];simp only[decide_eq_false_iff_not]at hm;simp only[hk,Sy,heT,hm,decide_true,true_and,not_false_eq_true]
       rw[hct]at Re;have hwn:=Zo (n:=(n:Int)) (by omega)
       have GL:ZR (pick l p)++[[ci e.to,ci e1.to,ci e1.kind,ci e1.table,cb e1.key.text,ci e1.key.n, .v (.string e1.key.s),cb e1.ZN]]=ZR (pick l (p++[i])):=by
        rw[a1C NK, <-Sy];simp[ZR,Eg.cells]
       have NF:∀k,k∈p++[i]->k<l.length:=fun k hk=>by
        rcases a1E.1 hk with hk|hk
        ·exact hp k hk
        ·rw[a2z.1 hk];exact Zb
       have N4:=Jm NF;have ht:a7U (p.length+1) (ZR (pick l (p++[i])))=ZR (pick l (p++[i])):=a2B (by simp[N4]);simp-dsimp[SC,hwn,GL,UN];refine⟨by omega,by omega,by omega,by omega,?_⟩;refine o9 (QZ [64] (by decide) _) ?_
       refine Yk (ih (p:=p++[i]) (by simp) NF (by simp;omega)) rfl (by simp[Z5,UF,ht]) (by simp) (by simp) (by simp) ?_;have O7:=c1n (l:=l) (ok:=Zg ks) n (p:=p++[i]);have hwp:=Jm (l:=l) (c0n (ok:=Zg ks) n NF);rw[List.length_append,List.length_singleton]at O7
       by_cases hz:Yr (ZZ l (Zg ks)) n (p++[i])=[]
       ·simp-dsimp[hz,Z5,ZR,OV,SC];exact⟨Zb,by rw[Re];simpa using hz⟩
       ·have Om:=a6I.2 hz;simp only[if_true]at Re
        have T3:Yr (ZZ l (Zg ks)) (n+1) p=Yr (ZZ l (Zg ks)) n (p++[i]):=by
         rw[c9m,b9o (j:=i+1) (by rw[Re];exact hz) Zb,Re]
        simp-dsimp[Z5,hwp,Om,T3];exact⟨[11,9,6],by simp[YR,AV.Xj]⟩
     ·have hcf:c1 (G:=ZZ l (Zg ks)) p i=false:=by rw[Ri, <-heT];simp[Sy]
      rw[hcf]at Re;simp-dsimp[Sy,SC];exact⟨Zb,Re⟩
   ·have Vp:i=l.length:=by omega
    subst Vp;simp-dsimp[PV,Z5];exact⟨[8,9,6],by simp[YR,AV.Xj,c9m,hq,ZR,OV]⟩
end Go.Rt
end

section
namespace Go.Rt
open Go.Vm
theorem Eg.U9{a b:Eg}:a=b↔a.ZX=b.ZX/\a.to=b.to/\a.kind=b.kind/\a.table=b.table/\a.key.text=b.key.text/\a.key.n=b.key.n/\a.key.s=b.key.s/\a.ZN=b.ZN:=by
 obtain⟨a1,a2,a3,a4,⟨a5,a6,a7⟩,a8⟩:=a;obtain⟨b1,b2,b3,b4,⟨b5,b6,b7⟩,b8⟩:=b;simp[and_assoc]
theorem c2r{α β:Type}{f:α->List β}{p:α->Bool}:∀(L:List α),(∀x,x∈L->p x=false->f x=[])->TH (L.map f)=TH ((L.filter p).map f)
 | [],_=>rfl
 |x::L,h=>by
  have ih:=c2r L fun y hy=>h y (a2C _ hy)
  cases hp:p x with
  |true=>rw[c7B hp,a0G,a0G,TH,TH,ih]
  |false=>
   rw[b2R (by simp[hp]),a0G,TH,h x a8C hp];simpa using ih
def c3r(q:List Eg):Int:=(q.getLast?.map Eg.to).getD 0
def rz(q:List Eg):Int:=(q.head?.map Eg.ZX).getD 0
def SO(l:List Eg)(ok:Eg->Bool):Nat->List Eg->List Eg
 | 0,q=>if c3r q=rz q then q else[]
 |n+1,q=>TH (l.map fun e=>if ok e=true/\e.ZX=c3r q/\e.to∉q.map Eg.to then SO l ok n (q++[e])else[])
theorem c4r(l:List Eg)(ok:Eg->Bool):∀(n:Nat) (q:List Eg),SO l ok n q=SO (l.filter ok) ok n q
 | 0,q=>rfl
 |n+1,q=>by
  simp only[SO];rw[c2r (p:=ok) l fun x _ hx=>by rw[if_neg];rintro⟨h,_⟩;rw[hx]at h;cases h]
  congr 2
  funext e
  rw[c4r l ok n (q++[e])]
section
variable{l:List Eg}{ok:Eg->Bool}
theorem c5r{p:List Nat}(h:∀k,k∈p->k<l.length):pick l p=[]↔p=[]:=by
 rw[<-a9U,Jm h,a9U]
theorem c6r{p:List Nat}(h:∀k,k∈p->k<l.length)(ZS:p≠[]):c3r (pick l p)=nd (ZZ l ok) p:=by
 obtain⟨r,k,rfl⟩:∃r k,p=r++[k]:=⟨p.dropLast,p.getLast ZS,(c0R ZS).symm⟩;obtain⟨e,he⟩:=Zw (h k (by simp));rw[a1C he,Qj,Ud he];simp[c3r]
theorem c7r{p:List Nat}(h:∀k,k∈p->k<l.length)(ZS:p≠[]):rz (pick l p)=(ZZ l ok).F (p.headD 0):=by
 cases p with
 |nil=>exact absurd rfl ZS
 |cons k r=>
  obtain⟨e,he⟩:=Zw (h k (by simp));rw[Ex he]
  show e.ZX=(ZZ l ok).F k
  rw[TC he]
theorem c8r{α:Type}:∀{L:List (List α)},TH L≠[]->TH L∈L
 | [],h=>absurd rfl h
 |x::L,h=>by
  simp only[TH]at h⊢
  by_cases hx:x=[]
  ·subst hx;simp only[List.isEmpty_nil,if_true]at h⊢;exact a2C _ (c8r h)
  ·rw[if_neg (by simpa using hx)];exact a8C
theorem c9r:∀(n:Nat) {p:List Nat},(∀k,k∈p->k<l.length)->∀k,k∈Yr (ZZ l ok) n p->k<l.length
 | 0,p,h,k,hk=>by
  simp only[Yr]at hk;split at hk
  ·exact h k hk
  ·cases hk
 |n+1,p,h,k,hk=>by
  simp only[Yr]at hk;have hm:=c8r (b9Q hk);obtain⟨j,hj,he⟩:=a3E.1 hm;rw[<-he]at hk;split at hk
  ·refine c9r n (p:=p++[j]) (fun x hx=>?_) k hk
   rcases a1E.1 hx with g|g
   ·exact h x g
   ·rw[a2z.1 g];exact a4U.1 hj
  ·cases hk
theorem c0s{α:Type}(l:List Eg)(f:Nat->List α)(g:Eg->List α)(h:∀k e,l[k]? =some e->f k=g e):(a0I l.length).map f=l.map g:=by
 apply b9j;intro i;rw[a0C,a0C]
 by_cases hi:i<l.length
 ·obtain⟨e,he⟩:=Zw hi;rw[List.getElem?_range hi,he,a4G,a4G,h i e he]
 ·rw[b4T (by simpa using hi),b4T (by omega)];rfl
theorem c1s:∀(n:Nat) {p:List Nat},(∀k,k∈p->k<l.length)->p≠[]->pick l (Yr (ZZ l ok) n p)=SO l ok n (pick l p)
 | 0,p,h,ZS=>by
  simp only[Yr,SO];rw[c6r (ok:=ok) h ZS,c7r (ok:=ok) h ZS]
  split<;>rfl
 |n+1,p,h,ZS=>by
  simp only[Yr,SO];have hm:(ZZ l ok).m=l.length:=rfl;rw[hm]
  have key:∀k e,l[k]? =some e->pick l (if c1 (G:=ZZ l ok) p k=true then Yr (ZZ l ok) n (p++[k])else[])=if ok e=true/\e.ZX=c3r (pick l p)/\e.to∉(pick l p).map Eg.to then SO l ok n (pick l p++[e])else[]:=by
   intro k e he;have hk:=(a7y.1 he).1
   have hc:c1 (G:=ZZ l ok) p k=true↔ok e=true/\e.ZX=c3r (pick l p)/\e.to∉(pick l p).map Eg.to:=by
    unfold c1;rw[decide_eq_true_eq,qv he,TC he,Ud he,c6r (ok:=ok) h ZS,a6C (ok:=ok) h]
   by_cases EL:c1 (G:=ZZ l ok) p k=true
   ·rw[if_pos EL,if_pos (hc.1 EL),c1s n (p:=p++[k]) (fun x hx=>by
     rcases a1E.1 hx with g|g
     ·exact h x g
     ·rw[a2z.1 g];exact hk) (by simp),a1C he]
   ·rw[if_neg EL,if_neg fun g=>EL (hc.2 g)];rfl
  rw[<-c0s l (fun k=>pick l (if c1 (G:=ZZ l ok) p k=true then Yr (ZZ l ok) n (p++[k])else[])) _ key]
  have f5k:∀(L:List (List Nat)),(∀x,x∈L->∀k,k∈x->k<l.length)->pick l (TH L)=TH (L.map (pick l)):=by
   intro L
   induction L with
   |nil=>intro _;rfl
   |cons x L ih=>
    intro hL;simp only[TH,a0G];have hx:=c5r (hL x a8C)
    by_cases h0:x=[]
    ·subst h0
     simpa[OV]using ih fun y hy=>hL y (a2C _ hy)
    ·rw[if_neg (by simpa using h0),if_neg (by simpa using fun g=>h0 (hx.1 g))]
  rw[f5k _ fun x hx=>?_,List.map_map]
  ·rfl
  ·obtain⟨j,hj,rfl⟩:=a3E.1 hx;split
   ·exact c9r n fun x hx=>by
     rcases a1E.1 hx with g|g
     ·exact h x g
     ·rw[a2z.1 g];exact a4U.1 hj
   ·intro k hk;cases hk
theorem c2s{s:Nat}{e:Eg}(he:l[s]? =some e):pick l (XG (ZZ l ok) s)=Vn (fun n=>SO (l.filter ok) ok n [e]) (l.length+1):=by
 have hs:=(a7y.1 he).1
 have S2:∀k,k∈[s]->k<l.length:=fun k hk=>by rw[a2z.1 hk];exact hs
 unfold XG Vn;have hm:(ZZ l ok).m=l.length:=rfl;rw[hm]
 have e1:∀n,pick l (Yr (ZZ l ok) n [s])=SO (l.filter ok) ok n [e]:=fun n=>by
  rw[c1s n S2 (by simp),c4r,Ex he,OV]
 generalize l.length+1=N;rw[<-show((a0I N).map fun n=>pick l (Yr (ZZ l ok) n [s]))=(a0I N).map fun n=>SO (l.filter ok) ok n [e]from List.map_congr_left fun n _=>e1 n];generalize a0I N=R
 induction R with
 |nil=>rfl
 |cons n R ih=>
  simp only[a0G,TH];have hx:=c5r (c9r (ok:=ok) n S2)
  by_cases h0:Yr (ZZ l ok) n [s]=[]
  ·rw[h0];simpa[OV]using ih
  ·rw[if_neg (by simpa using h0),if_neg (by simpa using fun g=>h0 (hx.1 g))]
end
theorem c3s{α:Type}{f:Nat->List α}{n:Nat}{c:List α}(h:∀i,i<n->f i=[]\/f i=c)(hi:∃i,i<n/\f i=c):Vn f n=c:=by
 by_cases hc:c=[]
 ·subst hc
  exact b0p n fun i hi=>(h i hi).elim id id
 ·have ZS:Vn f n≠[]:=fun g=>by
   obtain⟨i,h1,h2⟩:=hi;exact hc (by rw[<-h2];exact b2p g i h1)
  obtain⟨i,h1,h2,_⟩:=b3p ZS;rw[h2]
  exact(h i h1).resolve_left fun g=>ZS (by rw[h2,g])
theorem c4s{l:List Eg}{fs rs:List Int}{e:Eg}(h:∀x,x∈l->Zg fs x=true->x=e)(he:e∈l)(hk:Zg fs e=true):
 ZL l fs rs=Vn (fun n=>SO (l.filter (Zg rs)) (Zg rs) n [e]) (l.length+1):=by
 have h2:ZL l fs rs=Vn (fun i=>pick l (if Wg l fs i then XG (ZZ l (Zg rs)) i else[])) l.length:=by
  unfold ZL JE Vn;have hm:(ZZ l (Zg rs)).m=l.length:=rfl;rw[hm]
  have Yq:∀i,i<l.length->∀k,k∈(if Wg l fs i then XG (ZZ l (Zg rs)) i else[])->k<l.length:=by
   intro i hi k hk;split at hk
   ·unfold XG Vn at hk;have hm:=c8r (b9Q hk);obtain⟨n,_,he⟩:=a3E.1 hm;rw[<-he]at hk;exact c9r n (p:=[i]) (fun x hx=>by rw[a2z.1 hx];exact hi) k hk
   ·cases hk
  have:∀R:List Nat,(∀i,i∈R->i<l.length)->pick l (TH (R.map fun i=>if Wg l fs i then XG (ZZ l (Zg rs)) i else[]))=TH (R.map fun i=>pick l (if Wg l fs i then XG (ZZ l (Zg rs)) i else[])):=by
   intro R
   induction R with
   |nil=>intro _;rfl
   |cons i R ih=>
    intro hR;simp only[a0G,TH];have hx:=c5r (Yq i (hR i a8C));generalize (if Wg l fs i then XG (ZZ l (Zg rs)) i else[])=c at*
    by_cases h0:c=[]
    ·subst h0
     simpa[OV]using ih fun j hj=>hR j (a2C _ hj)
    ·have h1:¬pick l c=[]:=fun g=>h0 (hx.1 g)
     rw[if_neg (by simpa using h0),if_neg (by simpa using h1)]
  exact this _ fun i hi=>a4U.1 hi
 rw[h2];refine c3s (fun i hi=>?_) ?_
 ·obtain⟨x,hx⟩:=Zw hi
  have hf:Wg l fs i=Zg fs x:=by simp[Wg,hx]
  rw[hf]
  cases hox:Zg fs x with
  |false=>exact .inl (by simp[OV])
  |true=>
   have:=h x (a8y hx) hox;subst this;exact .inr (by rw[if_pos rfl,c2s hx])
 ·obtain⟨i,hi⟩:=a9B he
  have hf:Wg l fs i=Zg fs e:=by simp[Wg,hi]
  exact⟨i,(a7y.1 hi).1,by rw[hf,hk,if_pos rfl,c2s hi]⟩
def Wh(e x:Eg):Bool:=decide (x=e)||(decide (x.kind=1)&&decide (x.table=e.table)&&decide (x.key=e.key))
def TF(e x:Eg):Bool:=decide (x.kind=1)&&decide (x.table=e.table)&&decide (x.key=e.key)
def W9(es:List Eg)(e:Eg):List Eg:=es.filter (Wh e)
def Vg(es:List Eg)(e:Eg):List Eg:=e::es.filter (TF e)
theorem c5s{e:Eg}(hk:e.kind=4):∀{es:List Eg},es.Nodup->e∈es->(W9 es e).length=(Vg es e).length
 | [],_,h=>by cases h
 |x::es,hn,h=>by
  unfold W9 Vg;rw[List.nodup_cons]at hn
  have Y6:∀y,y∈es->y≠e->(Wh e y=TF e y):=fun y _ hy=>by simp[Wh,TF,hy]
  by_cases hx:x=e
  ·subst hx
   have h1:Wh x x=true:=by simp[Wh]
   have h2:TF x x=false:=by simp[TF,hk]
   rw[c7B h1,b2R (by simp[h2]),a3O,a3O]
   congr 2
   exact d8p fun y hy=>Y6 y hy fun g=>hn.1 (g▸hy)
  ·have he:e∈es:=by
    rcases a2E.1 h with g|g
    ·exact absurd g.symm hx
    ·exact g
   have ih:=c5s hk hn.2 he;unfold W9 Vg at ih
   have hxx:Wh e x=TF e x:=by simp[Wh,TF,hx]
   rw[a3O]at ih⊢;rw[a0V,a0V,hxx]
   cases hw:TF e x<;>simp[ih]
theorem c6s{es:List Eg}{e:Eg}(hk:e.kind=4)(hn:es.Nodup)(he:e∈es):ZL (W9 es e) [4] [1]=ZL (Vg es e) [4] [1]:=by
 have hk4:Zg [4] e=true:=by simp[Zg,hk]
 have h4:∀x:Eg,Zg [4] x=true->x.kind=4:=fun x h=>by simpa[Zg]using h
 have h1:∀x:Eg,Zg [1] x=true↔x.kind=1:=fun x=>by simp[Zg]
 rw[c4s (l:=W9 es e) (e:=e) (fun x hx h=>?_) (a0F.2 ⟨he,by simp[Wh]⟩) hk4,c4s (l:=Vg es e) (e:=e) (fun x hx h=>?_) a8C hk4,c5s hk hn he]
 ·congr 1
  funext n
  congr 1
  unfold W9 Vg;rw[b2R (by rw[h1,hk];decide),d8o,d8o]
  refine d8p fun x hx=>?_
  by_cases O5:x.kind=1
  ·have:x≠e:=fun g=>by rw[g,hk]at O5;cases O5
   simp[Wh,TF,this]
  ·have:Zg [1] x=false:=by cases h:Zg [1] x with
    |false=>rfl
    |true=>exact absurd ((h1 x).1 h) O5
   simp[this]
 ·unfold Vg at hx
  rcases a2E.1 hx with g|g
  ·exact g
  ·have:=(a0F.1 g).2;simp only[TF,a4C,decide_eq_true_eq]at this;have:=h4 x h;omega
 ·have:=(a0F.1 hx).2;simp only[Wh,b6L,a4C,decide_eq_true_eq]at this
  rcases this with g|g
  ·exact g
  ·have:=h4 x h;omega
def Xe(es:List Eg)(e:Eg):Bool:=decide (e.kind=4)&&e.ZN&& !(ZL (W9 es e) [4] [1]).isEmpty
def Xb(es:List Eg):List Eg->List Eg
 | []=>[]
 |e::r=>if Xe es e then ZL (W9 es e) [4] [1]else Xb es r
theorem c7s{es:List Eg}:∀{l:List Eg},(∀e,e∈l->Xe es e=false)->Xb es l=[]
 | [],_=>rfl
 |e::r,h=>by
  simp only[Xb];rw[h e a8C]
  simpa using c7s fun x hx=>h x (a2C _ hx)
theorem c8s{es:List Eg}:∀{l:List Eg} {i:Nat} {e:Eg},l[i]? =some e->Xe es e=true->(∀j x,j<i->l[j]? =some x->Xe es x=false)->Xb es l=ZL (W9 es e) [4] [1]
 | [],i,e,h,_,_=>by simp at h
 |x::r,0,e,h,hc,_=>by
  simp only[a9E,a5y]at h;subst h;simp only[Xb];rw[hc,if_pos rfl]
 |x::r,i+1,e,h,hc,hn=>by
  simp only[Xb];rw[hn 0 x (by omega) rfl];simp only[a2I]at h
  simpa using c8s h hc fun j y hj hy=>hn (j+1) y (by omega) (by simpa using hy)
theorem c9s{es:List Eg}:∀{l:List Eg},Xb es l≠[]->∃e,e∈l/\Xe es e=true/\Xb es l=ZL (W9 es e) [4] [1]
 | [],h=>absurd rfl h
 |x::r,h=>by
  simp only[Xb]at h⊢
  cases hc:Xe es x with
  |true=>exact⟨x,a8C,hc,by simp⟩
  |false=>
   rw[hc]at h;simp only[a5M,if_false]at h⊢;obtain⟨e,h1,h2,h3⟩:=c9s h;exact⟨e,a2C _ h1,h2,h3⟩
theorem c3a(
 e x:Eg):ZU prog true OM [x.av, .iv (.pt e.cells)] [] (vb (!Wh e x)) []:=by
 refine YD oz (by simp) (by decide) rfl ?_
 by_cases hx:x=e
 ·subst hx;simp-dsimp[a8p,Eg.av,Eg.cells,Wh]
 ·have GH:¬(x.ZX=e.ZX/\x.to=e.to/\x.kind=e.kind/\x.table=e.table/\x.key.text=e.key.text/\x.key.n=e.key.n/\x.key.s=e.key.s/\x.ZN=e.ZN):=fun g=>hx (Eg.U9.2 g)
  by_cases k1:x.kind=1
  ·by_cases ht:x.table=e.table
   ·by_cases hk:x.key=e.key
    ·simp-dsimp[a8p,Eg.av,Eg.cells,Wh,hx,k1,ht,hk]
    ·have NI:¬(x.key.text=e.key.text/\x.key.n=e.key.n/\x.key.s=e.key.s):=fun g=>hk (Vl.eq_iff.2 g)
     simp-dsimp[a8p,Eg.av,Eg.cells,Wh,hx,k1,ht,hk]
     have hk4:¬x.key.text=e.key.text\/¬x.key.n=e.key.n\/¬x.key.s=e.key.s:=by
      by_cases q1:x.key.text=e.key.text
      ·by_cases q2:x.key.n=e.key.n
       ·exact .inr (.inr fun q3=>NI ⟨q1,q2,q3⟩)
       ·exact .inr (.inl q2)
      ·exact .inl q1
     exact⟨fun _=>hk4,fun _ _ _ e1 e2 e3 _=>NI ⟨e1,e2,e3⟩⟩
   ·simp-dsimp[a8p,Eg.av,Eg.cells,Wh,hx,k1,ht]
  ·simp-dsimp[a8p,Eg.av,Eg.cells,Wh,hx,k1]
   exact fun a b c d e1 e2 e3 e4=>GH ⟨a,b,c,d,e1,e2,e3,e4⟩
theorem c4a:XI prog OM=true:=by kernel_rfl
theorem c5a(es:List Eg)(e:Eg):Ol (fun x=> !Wh e x) es=W9 es e:=by
 unfold Ol W9;simp
theorem c6a(es:List Eg)(hl:es.length<2^40)(e:Eg):∃js:List Eg,(W9 es e++js).length=es.length∧
 ZU prog false Me [.sl 25 8 0 es.length, .fn OM [] [.val (.pt e.cells)]] [(25, .list 8 (ZR es))] (.sl 25 8 0 (W9 es e).length) [(25, .list 8 (ZR (W9 es e++js)))]:=by
 obtain⟨js,h1,h2⟩:=b2w es hl [.pt e.cells] c4a (fun x=> !Wh e x) fun x _=>c3a e x
 rw[c5a]at h1 h2;exact⟨js,h1,h2.Zk (Ren.WD [(1000,25)]) rfl⟩
@[simp]def f9Q:=[wx 1 0,wb 2 false]
@[simp]def f0R:=[y0 5 Mw,wm 3 5]
@[simp]def f1R:=[wm 6 3,wu 7 6]
@[simp]def f2R:=[wb 2 false]
@[simp]def f3R:=[ws 8 1 3,Y1 9 VL 8,wm 4 9]
@[simp]def f4R:=[wm 10 4,wu 11 10]
@[simp]def f5R:=[wb 2 true]
@[simp]def e3C:VT:=
 V1 13 Xv 12<|Ys 14 1 3<|V1 15 Vq 14<|V2 16 XE 13 15<|ym 2 16<|.done
@[simp]def e4C:VT:=
 Ys 14 1 3<|V1 13 Xv 12<|V1 15 Vq 14<|V2 16 XE 13 15<|ym 2 16<|.done
@[simp]def f6R:VT:=
 Ys 12 1 3<|.alt (e3C) (e4C)
@[simp]def f7R:=[wx 2 0,wx 3 1,wb 4 false]
@[simp]def f8R:=[y0 13 Mw,wm 5 13]
@[simp]def f9R:=[wm 14 5,wu 15 14]
@[simp]def f0S:=[wb 4 false]
@[simp]def f1S:=[ws 16 2 3,Y1 17 VL 16,wm 6 17]
@[simp]def f2S:=[wm 18 6,wu 19 18,wm 20 19,Ws 21 20 2 3,X1 22 20 R2 21,Yu 23 20 22,wq 24 20 23]
@[simp]def f3S:=[wb 4 true]
@[simp]def f4S:=[ws 25 2 3,Y1 26 Xv 25,wm 7 26]
@[simp]def f5S:=[ws 27 2 3,ws 28 3 3,oo 29 (.call R1 [(T 27),(K 0),(T 28)]),wm 8 29]
@[simp]def f6S:=[wk 9 0]
@[simp]def f6v:=[wk 10 0]
@[simp]def f7v:=[wm 30 10,wm 31 7,wn 32 31,wt 33 .lss 30 32]
@[simp]def f8v:VT:=
 ym 36 7<|ym 37 10<|yi 38 8 36 37<|Yf 39 2 38<|yl 40 39<|yc 41 .neq 40 1<|ym 42 41<|V (qm 43 42 7)<|V (qm 44 42 10)<|V (qi 45 42 8 43 44)<|V (jf 46 42 3 45)<|V (ql 47 42 46)<|V (qc 48 42 .neq 47 0)<|vq 49 42 48<|ym 50 49<|V (qm 51 50 7)<|V (qm 52 50 10)<|V (qi 53 50 8 51 52)<|V (jf 54 50 4 53)<|V (Ws 55 50 54 3)<|V (Ws 56 50 3 3)<|V (og 57 50 false (.eqs true [.b, .i .i64, .s] (T 55) (T 56)))<|vq 58 50 57<|.done
@[simp]def f9v:=[wm 59 9,wc 60 .add 59 1,wm 9 60]
@[simp]def f0w:=[wb 11 false]
@[simp]def f1w:=[wk 12 2]
@[simp]def f2w:=[wm 61 12,wm 62 8,wn 63 62,wt 64 .lss 61 63]
@[simp]def f3w:VT:=
 ym 67 11<|ym 68 67<|V (qm 69 68 8)<|V (qm 70 68 12)<|V (qc 71 68 .sub 70 1)<|V (qi 72 68 2 69 71)<|V (jf 73 68 0 72)<|V (ql 74 68 73)<|V (qm 75 68 7)<|V (qm 76 68 10)<|V (qi 77 68 8 75 76)<|V (jf 78 68 0 77)<|V (ql 79 68 78)<|V (qt 80 68 .eql 74 79)<|V (qm 81 68 80)<|V (Ym 82 81 8)<|V (Ym 83 81 12)<|V (Yi 84 81 2 82 83)<|V (qf 85 81 0 84)<|V (Yl 86 81 85)<|V (Ym 87 81 7)<|V (Ym 88 81 10)<|V (Yi 89 81 8 87 88)<|V (qf 90 81 1 89)<|V (Yl 91 81 90)<|V (Yt 92 81 .eql 86 91)<|V (qp 93 68 81 92)<|vq 94 68 93<|ym 11 94<|.done
@[simp]def f4w:=[wm 65 12,wc 66 .add 65 1,wm 12 66]
@[simp]def f5w:=[wm 95 11,wu 96 95]
@[simp]def f6w:=[wb 4 false]
@[simp]def f7w:=[wm 34 10,wc 35 .add 34 1,wm 10 35]
@[simp]def f8w:=[wm 97 9,wm 98 8,wn 99 98,wc 100 .sub 99 2,oo 101 (.mm true [(K 0),(T 100)]),wt 102 .eql 97 101,wm 4 102]
@[simp]def f7S:=[wx 1 0,wb 2 false]
@[simp]def f8S:=[y0 17 Mw,wm 3 17]
@[simp]def f9S:=[wm 18 3,wu 19 18]
@[simp]def f0T:=[wb 2 false]
@[simp]def f1T:=[ws 20 1 3,Y1 21 VL 20,wm 4 21]
@[simp]def f2T:=[wm 22 4,wu 23 22,wm 24 23,Ws 25 24 1 3,X1 26 24 R2 25,Yu 27 24 26,wq 28 24 27]
@[simp]def f3T:=[wb 2 true]
@[simp]def f4T:=[wk 5 1]
@[simp]def f5T:=[wm 29 5,yf 30 1 1,wl 31 30,wn 32 31,wt 33 .lss 29 32]
@[simp]def f6T:VT:=
 Yf 36 1 1<|yl 37 36<|ym 38 5<|yi 39 22 37 38<|Yf 40 1 39<|yl 41 40<|yc 42 .neq 41 1<|ym 43 42<|V (qf 44 43 1 1)<|V (Yl 45 43 44)<|V (Ym 46 43 5)<|V (Yi 47 43 22 45 46)<|V (qf 48 43 0 47)<|V (Yl 49 43 48)<|V (qf 50 43 1 1)<|V (Yl 51 43 50)<|V (Ym 52 43 5)<|V (Yc 53 43 .sub 52 1)<|V (Yi 54 43 22 51 53)<|V (qf 55 43 0 54)<|V (Yl 56 43 55)<|V (Yt 57 43 .neq 49 56)<|yp 58 43 57<|ym 59 58<|V (jf 60 59 1 1)<|V (ql 61 59 60)<|V (qm 62 59 5)<|V (qi 63 59 22 61 62)<|V (jf 64 59 0 63)<|V (ql 65 59 64)<|V (jf 66 59 1 1)<|V (ql 67 59 66)<|V (qm 68 59 5)<|V (qc 69 59 .sub 68 1)<|V (qi 70 59 22 67 69)<|V (jf 71 59 0 70)<|V (ql 72 59 71)<|V (qt 73 59 .lss 65 72)<|vq 74 59 73<|.done
@[simp]def f9w:=[wb 2 true]
@[simp]def f0x:=[wm 34 5,wc 35 .add 34 1,wm 5 35]
@[simp]def f1x:=[wk 6 0]
@[simp]def f2x:=[wm 75 6,yf 76 2 1,wl 77 76,wn 78 77,wt 79 .lss 75 78]
@[simp]def f3x:=[yf 82 2 1,wl 83 82,wm 84 6,wi 85 5 83 84,yf 86 4 85,wl 87 86,wm 7 87]
@[simp]def f4x:=[wk 8 1]
@[simp]def f5x:=[wm 88 8,wm 89 7,wn 90 89,wt 91 .lss 88 90]
@[simp]def f6x:VT:=
 ym 94 7<|ym 95 8<|yi 96 1 94 95<|yl 97 96<|ym 98 7<|ym 99 8<|yc 100 .sub 99 1<|yi 101 1 98 100<|yl 102 101<|vt 103 .lss 97 102<|.done
@[simp]def f7x:=[wb 2 true]
@[simp]def f8x:=[wm 92 8,wc 93 .add 92 1,wm 8 93]
@[simp]def f9x:=[wm 80 6,wc 81 .add 80 1,wm 6 81]
@[simp]def f0y:=[wk 9 0]
@[simp]def f1y:=[wm 104 9,yf 105 1 1,wl 106 105,wn 107 106,wt 108 .lss 104 107]
@[simp]def f2y:=[yf 111 1 1,wl 112 111,wm 113 9,wi 114 22 112 113,ws 115 114 22,oo 10 (.alloc [zi,zi,zi,zi,zb,zi,zs,zi,zi,zi, .nil 3,zi,zi,zb,zi,zs,zb,zi,zs, .nil 9, .nil 5,zb]),wo 10 115 22]
@[simp]def e5C:VT:=
 V (W4 126 119 Mv 120 121 123 125)<|V (qs 128 119 127 2)<|V (og 129 119 true (.eqs true [.i .i64, .i .i64] (T 126) (T 128)))<|yp 130 119 129<|.done
@[simp]def e6C:VT:=
 V (qs 128 119 127 2)<|V (W4 126 119 Mv 120 121 123 125)<|V (og 129 119 true (.eqs true [.i .i64, .i .i64] (T 126) (T 128)))<|yp 130 119 129<|.done
@[simp]def f3y:VT:=
 Yf 116 1 10<|yl 117 116<|yc 118 .eql 117 2<|ym 119 118<|V (qs 120 119 1 3)<|V (Ym 121 119 9)<|V (qf 122 119 3 10)<|V (Yl 123 119 122)<|V (qf 124 119 4 10)<|V (qs 125 119 124 3)<|V (qf 127 119 7 10)<|.alt (e5C) (e6C)
@[simp]def f4y:=[wb 2 true]
@[simp]def f5y:=[yf 131 1 10,wl 132 131,wc 133 .neq 132 4]
@[simp]def f6y:=[wk 11 0]
@[simp]def f7y:=[wm 134 11,yf 135 2 1,wl 136 135,wn 137 136,wt 138 .lss 134 137]
@[simp]def f8y:=[yf 141 2 1,wl 142 141,wm 143 11,wi 144 5 142 143,ws 145 144 5,oo 12 (.alloc [zi,zb,zi,zs, .nil 1]),wo 12 145 5]
@[simp]def f9y:=[yf 146 0 12,wl 147 146,yf 148 3 10,wl 149 148,wt 150 .neq 147 149]
@[simp]def f0z:=[oo 151 (.build [zi,zi] []),oo 13 (.alloc [zi,zi]),wo 13 151 2]
@[simp]def f1z:=[wk 14 0]
@[simp]def f2z:=[wm 152 14,yf 153 20 10,wl 154 153,wn 155 154,wt 156 .lss 152 155]
@[simp]def f3z:VT:=
 Yf 159 20 10<|yl 160 159<|ym 161 14<|yi 162 5 160 161<|Yf 163 0 162<|Ys 164 163 3<|Yf 165 1 12<|Ys 166 165 3<|oc 167 (.eqs false [.b, .i .i64, .s] (T 164) (T 166))<|.done
@[simp]def f4z:=[yf 168 20 10,wl 169 168,wm 170 14,wi 171 5 169 170,yf 172 3 171,ws 173 172 2,wo 13 173 2]
@[simp]def f5z:=[wm 157 14,wc 158 .add 157 1,wm 14 158]
@[simp]def e7C:VT:=
 j4 180 Mv 174 175 177 179<|Ys 181 13 2<|oc 182 (.eqs true [.i .i64, .i .i64] (T 180) (T 181))<|.done
@[simp]def e8C:VT:=
 Ys 181 13 2<|j4 180 Mv 174 175 177 179<|oc 182 (.eqs true [.i .i64, .i .i64] (T 180) (T 181))<|.done
@[simp]def f6z:VT:=
 Ys 174 1 3<|ym 175 9<|Yf 176 0 12<|yl 177 176<|Yf 178 1 12<|Ys 179 178 3<|.alt (e7C) (e8C)
@[simp]def f7z:=[wb 2 true]
@[simp]def f8z:=[wm 139 11,wc 140 .add 139 1,wm 11 140]
@[simp]def f9z:=[wm 109 9,wc 110 .add 109 1,wm 9 110]
@[simp]def f0A:=[ws 183 1 3,Y1 184 Xv 183,wm 15 184]
@[simp]def f1A:=[wk 16 0]
@[simp]def f2A:=[wm 185 16,wm 186 15,wn 187 186,wt 188 .lss 185 187]
@[simp]def f3A:VT:=
 ym 191 15<|ym 192 16<|yi 193 8 191 192<|Yf 194 0 193<|yl 195 194<|ym 196 15<|ym 197 16<|yi 198 8 196 197<|Yf 199 1 198<|yl 200 199<|vt 201 .geq 195 200<|.done
@[simp]def f4A:=[wb 2 false]
@[simp]def f5A:=[wm 189 16,wc 190 .add 189 1,wm 16 190]
@[simp]def f6A:=[wb 2 true]
@[simp]def f7T:=[wx 1 0,wb 2 false]
@[simp]def f8T:=[y0 9 Mw,wm 3 9]
@[simp]def f9T:=[wm 10 3,wu 11 10]
@[simp]def f0U:=[wb 2 false]
@[simp]def f1U:=[ws 12 1 3,Y1 13 VL 12,wm 4 13]
@[simp]def f2U:=[wm 14 4,wu 15 14]
@[simp]def f3U:=[wb 2 true]
@[simp]def f4U:=[ws 16 1 3,oo 5 (.alloc [.nil 1, .nil 22, .nil 5]),wo 5 16 3]
@[simp]def f5U:=[yf 17 1 5,on (.st (T 17) (.const (.slice none 0 0)) 1)]
@[simp]def f6U:=[wk 6 0]
@[simp]def f7A:=[wm 18 6,yf 19 1 1,wl 20 19,wn 21 20,wt 22 .lss 18 21]
@[simp]def f8A:=[yf 25 1 1,wl 26 25,wm 27 6,wi 28 22 26 27,ws 29 28 22,oo 7 (.alloc [zi,zi,zi,zi,zb,zi,zs,zi,zi,zi, .nil 3,zi,zi,zb,zi,zs,zb,zi,zs, .nil 9, .nil 5,zb]),wo 7 29 22]
@[simp]def f9A:=[ws 30 1 3,yf 31 0 7,wl 32 31,Y2 33 UL 30 32,wm 8 33]
@[simp]def f0B:=[wm 34 8,wm 35 34,jf 36 35 1 7,ql 37 35 36,qc 38 35 .neq 37 2,qm 39 35 38,qf 40 39 1 7,Yl 41 39 40,Yc 42 39 .neq 41 4,qp 43 35 39 42,wq 44 35 43]
@[simp]def f1B:=[yf 45 1 5,wl 46 45,ws 47 7 22,oo 48 (.lit 22 1 [(0,(T 47))]),oo 49 (.app 22 248 (T 46) (T 48)),yf 50 1 5,wo 50 49 1]
@[simp]def f2B:=[wm 23 6,wc 24 .add 23 1,wm 6 24]
@[simp]def f3B:=[ws 51 1 3,Y1 52 R2 51,wu 53 52]
@[simp]def f4B:=[ws 54 1 3,Y1 55 Xv 54,wn 56 55,wc 57 .eql 56 0,wm 2 57]
@[simp]def e9C:VT:=
 V1 59 Xv 58<|Ys 60 1 3<|V1 61 Xv 60<|V2 62 XE 59 61<|ym 2 62<|.done
@[simp]def e0D:VT:=
 Ys 60 1 3<|V1 59 Xv 58<|V1 61 Xv 60<|V2 62 XE 59 61<|ym 2 62<|.done
@[simp]def f5B:VT:=
 Ys 58 5 3<|.alt (e9C) (e0D)
@[simp]def f7U:=[wb 0 false]
@[simp]def f8U:=[oo 4 (.build [zb,zi,zs] [(1,1,(K 5))]),oo 1 (.alloc [zb,zi,zs]),wo 1 4 3]
@[simp]def f9U:=[wz 2 22]
@[simp]def f0V:=[wm 5 2,oo 6 (.build [zi,zi,zi,zi,zb,zi,zs,zi,zi,zi, .nil 3,zi,zi,zb,zi,zs,zb,zi,zs, .nil 9, .nil 5,zb] [(0,1,(K 1)),(1,1,(K 1)),(2,1,(K 1))]),ws 7 1 3,ws 8 1 3,oo 9 (.lit 3 1 [(0,(T 8))]),oo 10 (.build [zi,zi,zi,zi,zb,zi,zs,zi,zi,zi, .nil 3,zi,zi,zb,zi,zs,zb,zi,zs, .nil 9, .nil 5,zb] [(0,1,(K 1)),(1,1,(K 3)),(4,3,(T 7)),(9,1,(K 1)),(10,1,(T 9))]),oo 11 (.build [zi,zi,zi,zi,zb,zi,zs,zi,zi,zi, .nil 3,zi,zi,zb,zi,zs,zb,zi,zs, .nil 9, .nil 5,zb] [(0,1,(K 1)),(1,1,(K 5))]),oo 12 (.lit 22 3 [(0,(T 6)),(1,(T 10)),(2,(T 11))]),oo 13 (.app 22 248 (T 5) (T 12)),wm 2 13]
@[simp]def f1V:=[wm 14 2,oo 15 (.build [zi,zi,zi,zi,zb,zi,zs,zi,zi,zi, .nil 3,zi,zi,zb,zi,zs,zb,zi,zs, .nil 9, .nil 5,zb] [(0,1,(K 2)),(1,1,(K 1)),(2,1,(K 1))]),ws 16 1 3,oo 17 (.build [zi,zi] [(0,1,(K 1)),(1,1,(K 1))]),oo 18 (.build [zi,zi,zi,zi,zb,zi,zs,zi,zi,zi, .nil 3,zi,zi,zb,zi,zs,zb,zi,zs, .nil 9, .nil 5,zb] [(0,1,(K 2)),(1,1,(K 2)),(4,3,(T 16)),(7,2,(T 17))]),oo 19 (.build [zi,zi,zi,zi,zb,zi,zs,zi,zi,zi, .nil 3,zi,zi,zb,zi,zs,zb,zi,zs, .nil 9, .nil 5,zb] [(0,1,(K 2)),(1,1,(K 5))]),oo 20 (.lit 22 3 [(0,(T 15)),(1,(T 18)),(2,(T 19))]),oo 21 (.app 22 248 (T 14) (T 20)),wm 2 21]
@[simp]def f2V:=[wm 22 2,oo 23 (.build [zi,zi,zi,zi,zb,zi,zs,zi,zi,zi, .nil 3,zi,zi,zb,zi,zs,zb,zi,zs, .nil 9, .nil 5,zb] [(0,1,(K 3)),(1,1,(K 1)),(2,1,(K 1))]),ws 24 1 3,oo 25 (.build [zi,zi,zi,zi,zb,zi,zs,zi,zi,zi, .nil 3,zi,zi,zb,zi,zs,zb,zi,zs, .nil 9, .nil 5,zb] [(0,1,(K 3)),(1,1,(K 3)),(4,3,(T 24)),(9,1,(K 1))]),oo 26 (.build [zi,zi,zi,zi,zb,zi,zs,zi,zi,zi, .nil 3,zi,zi,zb,zi,zs,zb,zi,zs, .nil 9, .nil 5,zb] [(0,1,(K 3)),(1,1,(K 5))]),oo 27 (.lit 22 3 [(0,(T 23)),(1,(T 25)),(2,(T 26))]),oo 28 (.app 22 248 (T 22) (T 27)),wm 2 28]
@[simp]def f3V:=[oo 29 (.lit 1 1 [(0,(B false))]),oo 30 (.build [.nil 1] [(0,1,(T 29))]),oo 31 (.lit 1 1 [(0,(T 30))]),wm 32 2,ws 33 1 3,oo 34 (.lit 1 2 [(0,(K 1)),(1,(K 3))]),oo 35 (.build [zi,zb,zi,zs, .nil 1] [(1,3,(T 33)),(4,1,(T 34))]),oo 36 (.lit 5 1 [(0,(T 35))]),oo 37 (.build [.nil 1, .nil 22, .nil 5] [(0,1,(T 31)),(1,1,(T 32)),(2,1,(T 36))]),Y1 38 Xv 37,wm 3 38]
@[simp]def f4V:VT:=
 ym 39 3<|vn 40 39<|yc 41 .eql 40 3<|ym 42 41<|V (Ym 43 42 3)<|V (og 44 42 true (.ia 8 (T 43) (K 0)))<|V (qs 45 42 44 8)<|V (qs 46 42 1 3)<|V (og 47 42 true (.build [zi,zi,zi,zi,zb,zi,zs,zb] [(0,1,(K 1)),(1,1,(K 2)),(2,1,(K 2)),(4,3,(T 46))]))<|V (og 48 42 true (.eqs false [.i .i64, .i .i64, .i .i64, .i .i64, .b, .i .i64, .s, .b] (T 45) (T 47)))<|yp 49 42 48<|ym 50 49<|V (Ym 51 50 3)<|V (og 52 50 true (.ia 8 (T 51) (K 1)))<|V (qs 53 50 52 8)<|V (qs 54 50 1 3)<|V (og 55 50 true (.build [zi,zi,zi,zi,zb,zi,zs,zb] [(0,1,(K 1)),(1,1,(K 3)),(2,1,(K 1)),(4,3,(T 54))]))<|V (og 56 50 true (.eqs false [.i .i64, .i .i64, .i .i64, .i .i64, .b, .i .i64, .s, .b] (T 53) (T 55)))<|yp 57 50 56<|ym 58 57<|V (Ym 59 58 3)<|V (og 60 58 true (.ia 8 (T 59) (K 2)))<|V (qs 61 58 60 8)<|V (qs 62 58 1 3)<|V (og 63 58 true (.build [zi,zi,zi,zi,zb,zi,zs,zb] [(0,1,(K 2)),(1,1,(K 3)),(2,1,(K 4)),(4,3,(T 62))]))<|V (og 64 58 true (.eqs false [.i .i64, .i .i64, .i .i64, .i .i64, .b, .i .i64, .s, .b] (T 61) (T 63)))<|yp 65 58 64<|ym 0 65<|.done
@[simp]def e1D:=[wb 4 false]
@[simp]def e2D:=[wm 6 0,wn 7 6,wm 8 1,wn 9 8,wt 10 .neq 7 9]
@[simp]def e3D:=[wb 4 false]
@[simp]def e4D:=[wk 5 0]
@[simp]def e5D:=[wm 11 5,wm 12 0,wn 13 12,wt 14 .lss 11 13]
@[simp]def e6D:VT:=
 ym 17 0<|ym 18 5<|yi 19 8 17 18<|Ys 20 19 8<|ym 21 1<|ym 22 5<|yi 23 8 21 22<|Ys 24 23 8<|oc 25 (.eqs true [.i .i64, .i .i64, .i .i64, .i .i64, .b, .i .i64, .s, .b] (T 20) (T 24))<|.done
@[simp]def e7D:=[wb 4 false]
@[simp]def e8D:=[wm 15 5,wc 16 .add 15 1,wm 5 16]
def FW:Z9:=
 (Q (QR e5D (CX 14 0)) (Q (.block 1 (Q (.any e6D) (CR 25 e7D))) (R e8D)))
@[simp]def e9D:=[wb 4 true]
def a9i:Z9:=(QR e1D (Q (QR e2D (CR 10 e3D)) (Q (QR e4D (.block 0 (.loop FW))) (QR e9D .ret))))
theorem e0E:Zz prog XE=some (26,a9i,[.tmp 4]):=by kernel_rfl
@[simp]def e1E:=[wx 1 0,wz 2 8]
@[simp]def e2E:=[ws 12 1 3,Y1 13 RZ 12,wm 3 13]
@[simp]def e3E:=[wm 14 3,oo 15 (.peq false (T 14) (.const (.pointer none)))]
@[simp]def e4E:=[wz 2 8]
@[simp]def e5E:=[ws 16 1 3,wm 17 3,oo 18 (.XD (true,[.i .i64, .i .i64, .i .i64, .i .i64, .b, .i .i64, .s, .b],false)),oo 19 (.build [.nil 1, .nil 22, .nil 5, .iv (.v (.pointer none)), .iv (.v (.map none))] [(0,3,(T 16)),(3,1,(T 17)),(4,1,(T 18))]),wx 20 19,wm 4 20]
@[simp]def e6E:=[yf 21 0 1,wl 22 21,wn 23 22,wk 24 0]
@[simp]def e7E:=[wt 25 .lss 24 23]
@[simp]def e8E:=[wm 26 24,wm 5 26]
@[simp]def e9E:=[wm 27 4,wm 28 5,Y2 29 Mj 27 28]
@[simp]def e0F:=[wc 30 .add 24 1,wm 24 30]
def Ls:Z9:=
 (QR e7E (Q (CX 25 0) (Q (.block 1 (QR e8E (R e9E))) (R e0F))))
@[simp]def vC:=[oo 31 (.XD (false,[.i .i64],false)),wm 6 31]
@[simp]def vB:=[wm 32 3,Y1 33 Mi 32,wn 34 33,wk 35 0]
@[simp]def vA:=[wt 36 .lss 35 34]
@[simp]def vz:=[wi 37 1 33 35,wl 38 37,wm 8 38]
@[simp]def vy:=[wm 39 6,wm 40 8,on (.YI (false,[.i .i64],false) (T 39) (T 40) (K 1))]
@[simp]def vw:=[wc 41 .add 35 1,wm 35 41]
def Lr:Z9:=
 (QR vA (Q (CX 36 2) (Q (.block 3 (QR vz (R vy))) (R vw))))
@[simp]def vv:=[yf 42 1 1,wl 43 42,wn 44 43,wk 45 0]
@[simp]def vj:=[wt 46 .lss 45 44]
@[simp]def vg:=[wi 47 22 43 45,ws 48 47 22,oo 10 (.alloc [zi,zi,zi,zi,zb,zi,zs,zi,zi,zi, .nil 3,zi,zi,zb,zi,zs,zb,zi,zs, .nil 9, .nil 5,zb]),wo 10 48 22]
@[simp]def vd:=[wm 50 6,yf 51 0 10,wl 52 51,oo 53 (.UT (false,[.i .i64],false) [zi] (T 50) (T 52) false),wc 54 .eql 53 0,wm 49 54]
@[simp]def va:=[yf 56 1 10,wl 57 56,wc 58 .eql 57 2,wm 55 58]
@[simp]def u7:=[wm 59 4,ws 60 10 22,Y2 61 Mh 59 60]
@[simp]def u6:=[yf 63 1 10,wl 64 63,wc 65 .eql 64 4,wm 62 65]
@[simp]def u0:=[wm 66 4,ws 67 10 22,Y2 68 Mg 66 67]
@[simp]def uZ:=[wc 69 .add 45 1,wm 45 69]
def Lq:Z9:=
 (QR vj (Q (CX 46 4) (Q (.block 5 (QR vg (.block 6 (QR vd (CT 49 .skip (QR va (CT 55 (R u7) (QR u6 (CT 62 (R u0) .skip))))))))) (R uZ))))
@[simp]def uY:=[wm 70 4,wh 71 70,yf 72 4 71,wl 73 72,Y1 74 Mf 73,Y1 75 Ia 74,wm 11 75]
@[simp]def uX:=[wm 76 11,oo 77 (.call ON [(T 76),(.func UK)])]
@[simp]def uW:=[wm 78 11,wm 2 78]
def a0j:Z9:=(QR e1E (QR e2E (Q (QR e3E (CR 15 e4E)) (QR e5E (Q (QR e6E (.block 0 (.loop Ls))) (QR vC (Q (QR vB (.block 2 (.loop Lr))) (Q (QR vv (.block 4 (.loop Lq))) (QR uY (QR uX (QR uW .ret)))))))))))
theorem G3:Zz prog Xv=some (79,a0j,[.tmp 2]):=by kernel_rfl
@[simp]def e1F:=[wx 1 0,wz 2 8]
@[simp]def e2F:=[ws 11 1 3,Y1 12 R2 11,wm 3 12]
@[simp]def e3F:=[wm 13 3,wu 14 13]
@[simp]def e4F:=[wz 2 8]
@[simp]def e5F:=[wz 4 8]
@[simp]def e6F:=[wk 5 0]
@[simp]def e7F:=[wm 15 5,yf 16 2 1,wl 17 16,wn 18 17,wt 19 .lss 15 18]
@[simp]def e8F:=[yf 22 2 1,wl 23 22,wm 24 5,wi 25 5 23 24,ws 26 25 5,oo 6 (.alloc [zi,zb,zi,zs, .nil 1]),wo 6 26 5]
@[simp]def e9F:=[wk 7 1]
@[simp]def e0G:=[wm 27 7,yf 28 4 6,wl 29 28,wn 30 29,wt 31 .lss 27 30]
@[simp]def uV:VT:=
 ym 34 4<|Yf 35 4 6<|yl 36 35<|ym 37 7<|yc 38 .sub 37 1<|yi 39 1 36 38<|yl 40 39<|Yf 41 4 6<|yl 42 41<|ym 43 7<|yi 44 1 42 43<|yl 45 44<|Yf 46 0 6<|yl 47 46<|Yf 48 1 6<|Ys 49 48 3<|oc 50 (.build [zi,zi,zi,zi,zb,zi,zs,zb] [(0,1,(T 40)),(1,1,(T 45)),(2,1,(K 1)),(3,1,(T 47)),(4,3,(T 49))])<|V2 51 Ta 34 50<|ym 4 51<|.done
@[simp]def uU:=[wm 32 7,wc 33 .add 32 1,wm 7 33]
def Pn:Z9:=
 (Q (QR e0G (CX 31 2)) (Q (.block 3 (.any uV)) (R uU)))
@[simp]def uT:=[wm 20 5,wc 21 .add 20 1,wm 5 21]
def Pm:Z9:=
 (Q (QR e7F (CX 19 0)) (Q (.block 1 (QR e8F (QR e9F (.block 2 (.loop Pn))))) (R uT)))
@[simp]def uS:=[wk 8 0]
@[simp]def uR:=[wm 52 8,yf 53 1 1,wl 54 53,wn 55 54,wt 56 .lss 52 55]
@[simp]def uQ:=[yf 59 1 1,wl 60 59,wm 61 8,wi 62 22 60 61,ws 63 62 22,oo 9 (.alloc [zi,zi,zi,zi,zb,zi,zs,zi,zi,zi, .nil 3,zi,zi,zb,zi,zs,zb,zi,zs, .nil 9, .nil 5,zb]),wo 9 63 22]
@[simp]def uP:=[ws 64 1 3,yf 65 0 9,wl 66 65,Y2 67 UL 64 66,wm 10 67]
@[simp]def uO:=[wm 68 10,wm 69 68,qf 70 69 1 9,Yl 71 69 70,Yc 72 69 .eql 71 2,wp 73 69 72]
@[simp]def uN:=[ws 74 1 3,wm 75 4,ws 76 9 22,Y3 77 H8 74 75 76,wm 4 77]
@[simp]def uM:=[wm 78 10,wm 79 78,qf 80 79 1 9,Yl 81 79 80,Yc 82 79 .eql 81 4,wp 83 79 82]
@[simp]def uL:=[ws 84 1 3,wm 85 4,ws 86 9 22,Y3 87 H7 84 85 86,wm 4 87]
@[simp]def uK:=[wm 57 8,wc 58 .add 57 1,wm 8 58]
def Pk:Z9:=
 (Q (QR uR (CX 56 4)) (Q (.block 5 (QR uQ (QR uP (Q (QR uO (CT 73 (R uN) .skip)) (QR uM (CT 83 (R uL) .skip)))))) (R uK)))
@[simp]def uJ:=[wm 88 4,wm 2 88]
def a1j:Z9:=(QR e1F (QR e2F (Q (QR e3F (CR 14 e4F)) (QR e5F (Q (QR e6F (.block 0 (.loop Pm))) (Q (QR uS (.block 4 (.loop Pk))) (QR uJ .ret)))))))
theorem e1G:Zz prog Vq=some (89,a1j,[.tmp 2]):=by kernel_rfl
@[simp]def f5V:=[wx 4 0,wx 7 3,oo 8 (.alloc [zi,zi])]
@[simp]def f6V:=[oo 13 (.build [zi,zi] []),oo 9 (.alloc [zi,zi]),wo 9 13 2]
@[simp]def f7V:=[wk 10 0]
@[simp]def f8V:=[wm 14 10,wm 15 1,wt 16 .lss 14 15]
@[simp]def f9V:=[yf 19 1 4,wl 20 19,wm 21 10,wi 22 22 20 21,ws 23 22 22,oo 11 (.alloc [zi,zi,zi,zi,zb,zi,zs,zi,zi,zi, .nil 3,zi,zi,zb,zi,zs,zb,zi,zs, .nil 9, .nil 5,zb]),wo 11 23 22]
@[simp]def f0W:=[ws 24 4 3,yf 25 0 11,wl 26 25,Y2 27 UL 24 26,wm 12 27]
@[simp]def f1W:VT:=
 Yf 28 1 11<|yl 29 28<|yc 30 .eql 29 3<|ym 31 30<|V (qf 32 31 3 11)<|V (Yl 33 31 32)<|V (Ym 34 31 2)<|V (Yt 35 31 .eql 33 34)<|yp 36 31 35<|ym 37 36<|V (qf 38 37 4 11)<|V (qs 39 37 38 3)<|V (qs 40 37 7 3)<|V (og 41 37 true (.eqs false [.b, .i .i64, .s] (T 39) (T 40)))<|yp 42 37 41<|ym 43 42<|V (Ym 44 43 12)<|V (Ym 45 43 44)<|V (jf 46 45 0 11)<|V (ql 47 45 46)<|V (jf 48 45 1 4)<|V (ql 49 45 48)<|V (qm 50 45 1)<|V (qi 51 45 22 49 50)<|V (jf 52 45 0 51)<|V (ql 53 45 52)<|V (qt 54 45 .eql 47 53)<|V (yq 55 43 45 54)<|yp 56 43 55<|.done
@[simp]def f2W:=[yf 57 0 11,wl 58 57,yf 59 9 11,wl 60 59,oo 61 (.build [zi,zi] [(0,1,(T 58)),(1,1,(T 60))]),wo 9 61 2]
@[simp]def f3W:=[wm 17 10,wc 18 .add 17 1,wm 10 18]
@[simp]def f6B:=[ws 62 9 2,wo 8 62 2]
@[simp]def e2G:=[wx 2 0,wx 3 1]
@[simp]def e3G:=[wl 7 2,wl 8 3,Y2 9 OI 7 8]
@[simp]def e4G:=[oo 4 (.alloc [zb,zi,zs]),wo 4 10 3]
@[simp]def e5G:=[wm 5 11]
@[simp]def e6G:=[wk 6 2]
@[simp]def e7G:=[wm 12 6,wm 13 5,wn 14 13,wt 15 .lss 12 14]
@[simp]def e8G:VT:=
 yl 18 2<|ym 19 5<|ym 20 6<|yc 21 .sub 20 1<|yi 22 2 19 21<|Yf 23 0 22<|yl 24 23<|ym 25 5<|ym 26 6<|yi 27 2 25 26<|Yf 28 0 27<|yl 29 28<|yl 30 3<|Ys 31 4 3<|oc 32 (.build [zi,zi,zi,zi,zb,zi,zs,zb] [(0,1,(T 24)),(1,1,(T 29)),(2,1,(K 1)),(3,1,(T 30)),(4,3,(T 31))])<|V2 33 RX 18 32<|.done
@[simp]def e9G:=[wm 16 6,wc 17 .add 16 1,wm 6 17]
def FV:Z9:=
 (Q (QR e7G (CX 15 2)) (Q (.block 3 (.any e8G)) (R e9G)))
def FU:Z9:=
 (QR e4G (R e5G))
def Kb:Z9:=
 (.block 1 (QR e6G (.block 2 (.loop FV))))
def Rw:Z9:=(QR e2G (QR e3G (.block 0 (.QY (T 9) [10,11] FU Kb))))
theorem e0H:Zz prog Mj=some (34,Rw,[]):=by kernel_rfl
@[simp]def e1H:=[wx 3 1]
@[simp]def e2H:VT:=
 ym 6 0<|vh 7 6<|Yf 8 3 7<|yl 9 8<|Yf 10 3 3<|yl 11 10<|Yf 12 4 3<|Ys 13 12 3<|Yf 14 7 3<|Ys 15 14 2<|j4 16 L3 9 11 13 15<|ym 4 16<|.done
@[simp]def e3H:VT:=
 ym 17 0<|vh 18 17<|Yf 19 3 18<|yl 20 19<|Yf 21 3 3<|yl 22 21<|Yf 23 4 3<|Ys 24 23 3<|W3 25 OH 20 22 24<|ym 5 25<|.done
@[simp]def e4H:=[wm 26 4,wc 27 .gtr 26 0]
@[simp]def e5H:=[wm 28 0,yf 29 7 3,yf 30 0 29,wl 31 30,yf 32 0 3,wl 33 32,yf 34 3 3,wl 35 34,yf 36 4 3,ws 37 36 3,yf 38 21 3,wl 39 38,oo 40 (.build [zi,zi,zi,zi,zb,zi,zs,zb] [(0,1,(T 31)),(1,1,(T 33)),(2,1,(K 2)),(3,1,(T 35)),(4,3,(T 37)),(7,1,(T 39))]),Y2 41 RX 28 40]
@[simp]def e6H:=[wm 42 4,wc 43 .geq 42 0,wm 44 43,Ym 45 44 4,Yc 46 44 .add 45 1,Ym 47 44 5,yn 48 44 47,Yt 49 44 .lss 46 48,wp 50 44 49,wm 51 50,qf 52 51 7 3,qf 53 51 0 52,Yl 54 51 53,qf 55 51 0 3,Yl 56 51 55,Yt 57 51 .neq 54 56,wp 58 51 57]
@[simp]def e7H:VT:=
 ym 59 0<|Yf 60 0 3<|yl 61 60<|ym 62 5<|ym 63 4<|yc 64 .add 63 1<|yi 65 2 62 64<|Yf 66 0 65<|yl 67 66<|Yf 68 3 3<|yl 69 68<|Yf 70 4 3<|Ys 71 70 3<|Yf 72 21 3<|yl 73 72<|oc 74 (.build [zi,zi,zi,zi,zb,zi,zs,zb] [(0,1,(T 61)),(1,1,(T 67)),(2,1,(K 4)),(3,1,(T 69)),(4,3,(T 71)),(7,1,(T 73))])<|V2 75 RX 59 74<|.done
def NV:Z9:=(QR e1H (Q (.any e2H) (Q (.any e3H) (Q (QR e4H (CT 27 (R e5H) .skip)) (QR e6H (CT 58 (.any e7H) .skip))))))
theorem e0C:Zz prog Mh=some (76,NV,[]):=by kernel_rfl
@[simp]def e8H:=[wx 2 0,wx 3 1]
@[simp]def e9H:=[oo 12 (.XD (true,[.b, .i .i64, .s],true)),oo 4 (.alloc [.iv (.v (.map none))]),wo 4 12 1]
@[simp]def e0I:=[yf 13 20 3,wl 14 13,wn 15 14,wk 16 0]
@[simp]def e1I:=[wt 17 .lss 16 15]
@[simp]def e2I:=[wi 18 5 14 16,ws 19 18 5,oo 6 (.alloc [zb,zi,zs,zi,zi]),wo 6 19 5]
@[simp]def e3I:=[wl 20 4,yf 21 0 6,ws 22 21 3,yf 23 3 6,ws 24 23 2,on (.YI (true,[.b, .i .i64, .s],true) (T 20) (T 22) (T 24))]
@[simp]def e4I:=[wc 25 .add 16 1,wm 16 25]
def FT:Z9:=
 (QR e1I (Q (CX 17 0) (Q (.block 1 (QR e2I (R e3I))) (R e4I))))
@[simp]def e5I:=[wl 26 2,yf 27 3 3,wl 28 27,Y2 29 OI 26 28]
@[simp]def e6I:=[oo 7 (.alloc [zb,zi,zs]),wo 7 30 3]
@[simp]def uI:=[wm 8 31]
@[simp]def uH:=[wl 32 4,ws 33 7 3,oo 34 (.UT (true,[.b, .i .i64, .s],true) [zi,zi] (T 32) (T 33) false),oo 9 (.alloc [zi,zi]),wo 9 34 2]
@[simp]def uG:VT:=
 yl 35 2<|vh 36 35<|Yf 37 3 36<|yl 38 37<|Yf 39 3 3<|yl 40 39<|Ys 41 7 3<|Ys 42 9 2<|j4 43 L3 38 40 41 42<|ym 10 43<|.done
@[simp]def uF:=[wm 44 10,wc 45 .lss 44 0,wm 46 45,jf 47 46 0 9,ql 48 46 47,jf 49 46 0 3,ql 50 46 49,qt 51 46 .eql 48 50,wq 52 46 51]
@[simp]def uE:=[wm 53 8,wn 54 53,wk 55 0]
@[simp]def uD:=[wt 56 .lss 55 54]
@[simp]def uC:=[wm 57 55,wm 11 57]
@[simp]def uB:VT:=
 yl 72 2<|vh 73 72<|Yf 74 3 73<|yl 75 74<|Yf 76 3 3<|yl 77 76<|Ys 78 7 3<|ym 79 11<|Yf 80 11 3<|Ys 81 80 9<|j5 82 L2 75 77 78 79 81<|vu 83 82<|ym 71 83<|.done
@[simp]def uA:=[wm 85 11,wm 86 10,wt 87 .leq 85 86,wm 84 87]
@[simp]def uz:VT:=
 yl 88 2<|ym 89 8<|ym 90 11<|yi 91 2 89 90<|Yf 92 0 91<|yl 93 92<|Yf 94 0 3<|yl 95 94<|Yf 96 3 3<|yl 97 96<|Ys 98 7 3<|oc 99 (.build [zi,zi,zi,zi,zb,zi,zs,zb] [(0,1,(T 93)),(1,1,(T 95)),(2,1,(K 3)),(3,1,(T 97)),(4,3,(T 98))])<|V2 100 RX 88 99<|.done
@[simp]def uy:VT:=
 yl 58 2<|Yf 59 0 3<|yl 60 59<|ym 61 8<|ym 62 11<|yi 63 2 61 62<|Yf 64 0 63<|yl 65 64<|Yf 66 3 3<|yl 67 66<|Ys 68 7 3<|oc 69 (.build [zi,zi,zi,zi,zb,zi,zs,zb] [(0,1,(T 60)),(1,1,(T 65)),(2,1,(K 5)),(3,1,(T 67)),(4,3,(T 68))])<|V2 70 RX 58 69<|.done
@[simp]def ux:=[wc 101 .add 55 1,wm 55 101]
def Ka:Z9:=
 (QR uD (Q (CX 56 4) (Q (.block 5 (QR uC (.block 6 (Q (.any uB) (CT 71 .skip (QR uA (CT 84 (.any uz) (.any uy)))))))) (R ux))))
def J9:Z9:=
 (QR e6I (R uI))
def J8:Z9:=
 (.block 3 (QR uH (Q (.any uG) (Q (QR uF (CT 52 (.exit 3) .skip)) (QR uE (.block 4 (.loop Ka)))))))
def J7:Z9:=(QR e8H (QR e9H (Q (QR e0I (.block 0 (.loop FT))) (QR e5I (.block 2 (.QY (T 29) [30,31] J9 J8))))))
theorem e7I:Zz prog Mg=some (102,J7,[]):=by kernel_rfl
@[simp]def e8I:=[wz 2 8]
@[simp]def e9I:=[wm 3 0,oo 4 (.call HW [(.const (.slice none 0 0)),(T 3)]),wm 2 4]
def a7j:Z9:=(QR e8I (QR e9I .ret))
theorem e0J:Zz prog Ia=some (5,a7j,[.tmp 2]):=by kernel_rfl
@[simp]def e1J:=[wx 1 0,oo 2 (.Td (.const .nilFunc))]
@[simp]def e2J:=[oo 3 (.V6 QG [] [(T 1)]),wm 2 3]
def J6:Z9:=(QR e1J (QR e2J .ret))
theorem e3J:Zz prog Mf=some (4,J6,[.tmp 2]):=by kernel_rfl
@[simp]def e4J:=[wx 2 0,wx 3 1,wk 4 0]
@[simp]def e5J:=[ws 6 2 8,ws 7 3 8,Y2 8 H9 6 7,wm 5 8]
@[simp]def e6J:=[wm 9 5,wc 10 .neq 9 0,wm 11 10,jf 12 11 7 2,ql 13 11 12,jf 14 11 7 3,ql 15 11 14,og 16 11 false (.beq false (T 13) (T 15)),wq 17 11 16]
@[simp]def e7J:=[wm 18 5,wm 4 18]
@[simp]def e8J:=[yf 19 7 3,wl 20 19]
@[simp]def e9J:=[wk 4 (-1)]
@[simp]def e0K:=[wk 4 1]
def a0k:Z9:=(QR e4J (Q (QR e5J (QR e6J (CR 17 e7J))) (Q (QR e8J (CR 20 e9J)) (QR e0K .ret))))
theorem e5B:Zz prog UK=some (21,a0k,[.tmp 4]):=by kernel_rfl
@[simp]def e1K:=[wx 2 0,wx 3 1,wk 4 0]
@[simp]def e2K:=[yf 7 0 2,wl 8 7,yf 9 0 3,wl 10 9,wt 11 .sub 8 10,yf 12 1 2,wl 13 12,yf 14 1 3,wl 15 14,wt 16 .sub 13 15,yf 17 2 2,wl 18 17,yf 19 2 3,wl 20 19,wt 21 .sub 18 20,yf 22 3 2,wl 23 22,yf 24 3 3,wl 25 24,wt 26 .sub 23 25,oo 27 (.build [zi,zi,zi,zi] [(0,1,(T 11)),(1,1,(T 16)),(2,1,(T 21)),(3,1,(T 26))]),wk 28 0]
@[simp]def e3K:=[wc 29 .lss 28 4]
@[simp]def e4K:=[oo 30 (.ix 4 (T 27) (T 28)),wm 6 30]
@[simp]def e5K:=[wm 31 6,wc 32 .neq 31 0]
@[simp]def e6K:=[wm 33 6,wm 4 33]
@[simp]def e7K:=[wc 34 .add 28 1,wm 28 34]
def Wp:Z9:=
 (QR e3K (Q (CX 29 0) (Q (.block 1 (QR e4K (QR e5K (CR 32 e6K)))) (R e7K))))
@[simp]def e8K:=[yf 35 4 2,ws 36 35 3,yf 37 4 3,ws 38 37 3,Y2 39 QF 36 38,wm 4 39]
def d0h:Z9:=(QR e1K (Q (QR e2K (.block 0 (.loop Wp))) (QR e8K .ret)))
theorem e4B:Zz prog H9=some (40,d0h,[.tmp 4]):=by kernel_rfl
@[simp]def e9K:=[wx 3 1,wz 4 8]
@[simp]def e0L:=[yf 7 0 3,wl 8 7,yf 9 1 3,wl 10 9,wt 11 .eql 8 10]
@[simp]def e1L:=[wm 12 0,wm 4 12]
@[simp]def e2L:=[wk 5 0]
@[simp]def e3L:VT:=
 ym 13 5<|ym 14 0<|vn 15 14<|vt 16 .lss 13 15<|ym 17 16<|V (Ym 18 17 0)<|V (Ym 19 17 5)<|V (Yi 20 17 8 18 19)<|V (qs 21 17 20 8)<|V (qs 22 17 3 8)<|V (U2 23 17 HV 21 22)<|yp 24 17 23<|.done
@[simp]def e4L:=[wm 25 5,wc 26 .add 25 1,wm 5 26]
def M7:Z9:=
 (Q (Q (.any e3L) (CX 24 0)) (.block 1 (R e4L)))
@[simp]def e5L:VT:=
 ym 27 5<|ym 28 0<|vn 29 28<|vt 30 .lss 27 29<|ym 31 30<|V (Ym 32 31 0)<|V (Ym 33 31 5)<|V (Yi 34 31 8 32 33)<|V (qs 35 31 34 8)<|V (qs 36 31 3 8)<|V (og 37 31 true (.eqs false [.i .i64, .i .i64, .i .i64, .i .i64, .b, .i .i64, .s, .b] (T 35) (T 36)))<|yp 38 31 37<|.done
@[simp]def e6L:=[wm 39 0,wm 4 39]
@[simp]def e7L:=[wz 6 8]
@[simp]def uw:=[wm 40 6,wm 41 0,wm 42 5,oo 43 (.cut 8 (T 41) none (some (T 42))),oo 44 (.app 8 72 (T 40) (T 43)),wm 6 44]
@[simp]def uv:=[wm 45 6,ws 46 3 8,oo 47 (.lit 8 1 [(0,(T 46))]),oo 48 (.app 8 72 (T 45) (T 47)),wm 6 48]
@[simp]def uu:=[wm 49 6,wm 50 0,wm 51 5,oo 52 (.cut 8 (T 50) (some (T 51)) none),oo 53 (.app 8 72 (T 49) (T 52)),wm 4 53]
def d1h:Z9:=(QR e9K (Q (QR e0L (CR 11 e1L)) (QR e2L (Q (.block 0 (.loop M7)) (Q (Q (.any e5L) (CR 38 e6L)) (QR e7L (QR uw (QR uv (QR uu .ret)))))))))
theorem jA:Zz prog Ta=some (54,d1h,[.tmp 4]):=by kernel_rfl
@[simp]def e8L:=[wx 3 0,wx 5 2,wz 6 8]
@[simp]def e9L:=[ws 9 3 3,yf 10 3 5,wl 11 10,yf 12 4 5,ws 13 12 3,Y3 14 R1 9 11 13,wm 7 14]
@[simp]def e0M:=[ws 15 3 3,yf 16 3 5,wl 17 16,yf 18 4 5,ws 19 18 3,yf 20 7 5,ws 21 20 2,Y4 22 L1 15 17 19 21,wm 8 22]
@[simp]def e1M:=[wm 23 8,wc 24 .lss 23 0]
@[simp]def e2M:=[wm 25 1,wm 6 25]
@[simp]def e3M:=[wm 26 8,wc 27 .gtr 26 0]
@[simp]def e4M:=[wm 28 1,yf 29 7 5,yf 30 0 29,wl 31 30,yf 32 0 5,wl 33 32,yf 34 3 5,wl 35 34,yf 36 4 5,ws 37 36 3,yf 38 21 5,wl 39 38,oo 40 (.build [zi,zi,zi,zi,zb,zi,zs,zb] [(0,1,(T 31)),(1,1,(T 33)),(2,1,(K 2)),(3,1,(T 35)),(4,3,(T 37)),(7,1,(T 39))]),Y2 41 Ta 28 40,wm 1 41]
@[simp]def e5M:=[wm 42 8,wc 43 .add 42 1,wm 44 7,wn 45 44,wt 46 .lss 43 45,wm 47 46,qf 48 47 7 5,qf 49 47 0 48,Yl 50 47 49,qf 51 47 0 5,Yl 52 47 51,Yt 53 47 .neq 50 52,wp 54 47 53]
@[simp]def e6M:VT:=
 ym 55 1<|Yf 56 0 5<|yl 57 56<|ym 58 7<|ym 59 8<|yc 60 .add 59 1<|yi 61 2 58 60<|Yf 62 0 61<|yl 63 62<|Yf 64 3 5<|yl 65 64<|Yf 66 4 5<|Ys 67 66 3<|Yf 68 21 5<|yl 69 68<|oc 70 (.build [zi,zi,zi,zi,zb,zi,zs,zb] [(0,1,(T 57)),(1,1,(T 63)),(2,1,(K 4)),(3,1,(T 65)),(4,3,(T 67)),(7,1,(T 69))])<|V2 71 Ta 55 70<|ym 1 71<|.done
@[simp]def e7M:=[wm 72 1,wm 6 72]
def d2h:Z9:=(QR e8L (QR e9L (QR e0M (Q (QR e1M (CR 24 e2M)) (Q (QR e3M (CT 27 (R e4M) .skip)) (Q (QR e5M (CT 54 (.any e6M) .skip)) (QR e7M .ret)))))))
theorem e8M:Zz prog H8=some (73,d2h,[.tmp 6]):=by kernel_rfl
@[simp]def e9M:=[wx 3 0,wx 5 2,wz 6 8]
@[simp]def e0N:=[wk 7 0]
@[simp]def e1N:=[wm 15 7,yf 16 2 3,wl 17 16,wn 18 17,wt 19 .lss 15 18]
@[simp]def e2N:=[yf 22 2 3,wl 23 22,wm 24 7,wi 25 5 23 24,ws 26 25 5,oo 8 (.alloc [zi,zb,zi,zs, .nil 1]),wo 8 26 5]
@[simp]def e3N:=[yf 27 0 8,wl 28 27,yf 29 3 5,wl 30 29,wt 31 .neq 28 30]
@[simp]def e4N:=[oo 32 (.build [zi,zi] []),oo 9 (.alloc [zi,zi]),wo 9 32 2]
@[simp]def e5N:=[wk 10 0]
@[simp]def e6N:=[wm 33 10,yf 34 20 5,wl 35 34,wn 36 35,wt 37 .lss 33 36]
@[simp]def e7N:VT:=
 Yf 40 20 5<|yl 41 40<|ym 42 10<|yi 43 5 41 42<|Yf 44 0 43<|Ys 45 44 3<|Yf 46 1 8<|Ys 47 46 3<|oc 48 (.eqs false [.b, .i .i64, .s] (T 45) (T 47))<|.done
@[simp]def e8N:=[yf 49 20 5,wl 50 49,wm 51 10,wi 52 5 50 51,yf 53 3 52,ws 54 53 2,wo 9 54 2]
@[simp]def ur:=[wm 38 10,wc 39 .add 38 1,wm 10 39]
def Sh:Z9:=
 (Q (QR e6N (CX 37 2)) (Q (.block 3 (Q (.any e7N) (CT 48 (R e8N) .skip))) (R ur)))
@[simp]def uo:=[ws 55 3 3,yf 56 0 8,wl 57 56,yf 58 1 8,ws 59 58 3,ws 60 9 2,Y4 61 L1 55 57 59 60,wm 11 61]
@[simp]def um:=[yf 62 0 9,wl 63 62,yf 64 0 5,wl 65 64,wt 66 .eql 63 65,wm 67 66,qm 68 67 11,qc 69 67 .lss 68 0,wq 70 67 69]
@[simp]def uk:=[ws 71 3 3,yf 72 0 8,wl 73 72,yf 74 1 8,ws 75 74 3,Y3 76 R1 71 73 75,wm 12 76]
@[simp]def uj:=[wk 13 1]
@[simp]def ui:=[wm 77 13,wm 78 12,wn 79 78,wt 80 .lss 77 79]
@[simp]def uh:=[ws 83 3 3,yf 84 0 8,wl 85 84,yf 86 1 8,ws 87 86 3,wm 88 13,yf 89 11 5,ws 90 89 9,Y5 91 LZ 83 85 87 88 90,wm 14 91]
@[simp]def ug:=[wm 92 14,wu 93 92]
@[simp]def uf:=[wm 94 13,wm 95 11,wt 96 .leq 94 95]
@[simp]def ud:VT:=
 ym 97 1<|ym 98 12<|ym 99 13<|yi 100 2 98 99<|Yf 101 0 100<|yl 102 101<|Yf 103 0 5<|yl 104 103<|Yf 105 0 8<|yl 106 105<|Yf 107 1 8<|Ys 108 107 3<|oc 109 (.build [zi,zi,zi,zi,zb,zi,zs,zb] [(0,1,(T 102)),(1,1,(T 104)),(2,1,(K 3)),(3,1,(T 106)),(4,3,(T 108))])<|V2 110 Ta 97 109<|ym 1 110<|.done
@[simp]def uc:VT:=
 ym 111 1<|Yf 112 0 5<|yl 113 112<|ym 114 12<|ym 115 13<|yi 116 2 114 115<|Yf 117 0 116<|yl 118 117<|Yf 119 0 8<|yl 120 119<|Yf 121 1 8<|Ys 122 121 3<|oc 123 (.build [zi,zi,zi,zi,zb,zi,zs,zb] [(0,1,(T 113)),(1,1,(T 118)),(2,1,(K 5)),(3,1,(T 120)),(4,3,(T 122))])<|V2 124 Ta 111 123<|ym 1 124<|.done
@[simp]def ub:=[wm 81 13,wc 82 .add 81 1,wm 13 82]
def Po:Z9:=
 (Q (QR ui (CX 80 4)) (Q (.block 5 (QR uh (Q (QR ug (CT 93 (.exit 5) .skip)) (QR uf (CT 96 (.any ud) (.any uc)))))) (R ub)))
@[simp]def ua:=[wm 20 7,wc 21 .add 20 1,wm 7 21]
def Si:Z9:=
 (Q (QR e1N (CX 19 0)) (Q (.block 1 (QR e2N (Q (QR e3N (CT 31 (.exit 1) .skip)) (QR e4N (Q (QR e5N (.block 2 (.loop Sh))) (QR uo (Q (QR um (CT 70 (.exit 1) .skip)) (QR uk (QR uj (.block 4 (.loop Po))))))))))) (R ua)))
@[simp]def tZ:=[wm 125 1,wm 6 125]
def d3h:Z9:=(QR e9M (Q (QR e0N (.block 0 (.loop Si))) (QR tZ .ret)))
theorem e8B:Zz prog H7=some (126,d3h,[.tmp 6]):=by kernel_rfl
@[simp]def e9N:=[wx 2 0,wx 3 1,oo 4 (.Td (.const .nilFunc))]
@[simp]def e0O:=[oo 5 (.V6 UJ [] [(T 2),(T 3)]),wm 4 5]
def RD:Z9:=(QR e9N (QR e0O .ret))
theorem jB:Zz prog OI=some (6,RD,[.tmp 4]):=by kernel_rfl
@[simp]def e1O:=[wx 3 1]
@[simp]def e2O:=[yf 4 0 3,wl 5 4,yf 6 1 3,wl 7 6,wt 8 .neq 5 7]
@[simp]def e3O:VT:=
 ym 9 0<|vh 10 9<|Yf 11 4 10<|yl 12 11<|Ys 13 3 8<|.op (on (.YI (true,[.i .i64, .i .i64, .i .i64, .i .i64, .b, .i .i64, .s, .b],false) (T 12) (T 13) (K 1)))<|.done
def Pj:Z9:=(QR e1O (QR e2O (CT 8 (.any e3O) .skip)))
theorem e4O:Zz prog RX=some (14,Pj,[]):=by kernel_rfl
@[simp]def e5O:=[wx 2 0,wz 4 8]
@[simp]def e6O:=[wm 6 1]
@[simp]def e7O:=[oo 5 (.alloc [zi,zi,zi,zi,zb,zi,zs,zb]),wo 5 7 8]
@[simp]def e8O:=[wl 8 2,ws 9 5 8,oo 10 (.lit 8 1 [(0,(T 9))]),oo 11 (.app 8 72 (T 8) (T 10)),wo 2 11 1]
def MP:Z9:=
 (R e7O)
def MO:Z9:=
 (.block 1 (R e8O))
@[simp]def e9O:=[wl 12 2,wm 4 12]
def a7k:Z9:=(QR e5O (Q (QR e6O (.block 0 (.QY (T 6) [7] MP MO))) (QR e9O .ret)))
theorem e0P:Zz prog HW=some (13,a7k,[.tmp 4]):=by kernel_rfl
@[simp]def e1P:=[wl 4 1,oo 5 (.QY (true,[.i .i64, .i .i64, .i .i64, .i .i64, .b, .i .i64, .s, .b],false) (T 4))]
@[simp]def e2P:=[oo 6 (.nxt (T 5)),we 7 0 6]
@[simp]def e3P:=[oo 8 (.S7 (T 5)),we 9 0 8,oo 3 (.alloc [zi,zi,zi,zi,zb,zi,zs,zb]),wo 3 9 8]
@[simp]def e4P:=[wm 10 0,ws 11 3 8,oo 12 (.Yz (T 10) [(T 11)]),wu 13 12]
def FR:Z9:=
 (QR e2P (Q (CX 7 0) (.block 1 (QR e3P (QR e4P (CT 13 .ret .skip))))))
def a8k:Z9:=(QR e1P (.block 0 (.loop FR)))
theorem e5P:Zz prog QG=some (14,a8k,[]):=by kernel_rfl
@[simp]def e6P:=[wx 2 0,wx 3 1,wb 4 false]
@[simp]def e7P:=[yf 6 0 2,wl 7 6,yf 8 0 3,wl 9 8,wt 10 .neq 7 9]
@[simp]def e8P:=[yf 11 0 2,wl 12 11,yf 13 0 3,wl 14 13,wt 15 .lss 12 14,wm 4 15]
@[simp]def e9P:=[yf 16 1 2,wl 17 16,yf 18 1 3,wl 19 18,wt 20 .neq 17 19]
@[simp]def e0Q:=[yf 21 1 2,wl 22 21,yf 23 1 3,wl 24 23,wt 25 .lss 22 24,wm 4 25]
@[simp]def e1Q:=[yf 26 2 2,wl 27 26,yf 28 2 3,wl 29 28,wt 30 .neq 27 29]
@[simp]def e2Q:=[yf 31 2 2,wl 32 31,yf 33 2 3,wl 34 33,wt 35 .lss 32 34,wm 4 35]
@[simp]def e3Q:=[yf 36 3 2,wl 37 36,yf 38 3 3,wl 39 38,wt 40 .neq 37 39]
@[simp]def e4Q:=[yf 41 3 2,wl 42 41,yf 43 3 3,wl 44 43,wt 45 .lss 42 44,wm 4 45]
@[simp]def e5Q:=[yf 46 4 2,ws 47 46 3,yf 48 4 3,ws 49 48 3,Y2 50 QC 47 49,wm 5 50]
@[simp]def tY:=[wm 51 5,wc 52 .neq 51 0]
@[simp]def tX:=[wm 53 5,wc 54 .lss 53 0,wm 4 54]
@[simp]def tW:=[yf 55 7 2,wl 56 55,wu 57 56,wm 58 57,qf 59 58 7 3,Yl 60 58 59,wp 61 58 60,wm 4 61]
def a9k:Z9:=(QR e6P (Q (QR e7P (CR 10 e8P)) (Q (QR e9P (CR 20 e0Q)) (Q (QR e1Q (CR 30 e2Q)) (Q (QR e3Q (CR 40 e4Q)) (QR e5Q (Q (QR tY (CR 52 tX)) (QR tW .ret))))))))
theorem e6B:Zz prog HV=some (62,a9k,[.tmp 4]):=by kernel_rfl
@[simp]def e6Q:=[wl 6 1,wh 7 6,yf 8 0 7,yf 9 2 8,wl 10 9,wn 11 10,wk 12 0]
@[simp]def e7Q:=[wt 13 .lss 12 11]
@[simp]def e8Q:=[wi 14 5 10 12,ws 15 14 5,oo 5 (.alloc [zi,zb,zi,zs, .nil 1]),wo 5 15 5]
@[simp]def e9Q:VT:=
 V (qs 23 20 22 3)<|V (V3 31 20 OH 27 28 30)<|V (og 32 20 true (.Yz (T 21) [(T 23),(T 31)]))<|V (yu 33 20 32)<|yp 34 20 33<|.done
@[simp]def e0R:VT:=
 V (V3 31 20 OH 27 28 30)<|V (qs 23 20 22 3)<|V (og 32 20 true (.Yz (T 21) [(T 23),(T 31)]))<|V (yu 33 20 32)<|yp 34 20 33<|.done
@[simp]def e1R:VT:=
 Yf 16 0 5<|yl 17 16<|yl 18 2<|vt 19 .eql 17 18<|ym 20 19<|V (Ym 21 20 0)<|V (qf 22 20 1 5)<|V (Yl 24 20 1)<|V (yh 25 20 24)<|V (qf 26 20 3 25)<|V (Yl 27 20 26)<|V (Yl 28 20 2)<|V (qf 29 20 1 5)<|V (qs 30 20 29 3)<|.alt (e9Q) (e0R)
@[simp]def e2R:=[wc 35 .add 12 1,wm 12 35]
def Gs:Z9:=
 (QR e7Q (Q (CX 13 0) (Q (.block 1 (QR e8Q (Q (.any e1R) (CT 34 .ret .skip)))) (R e2R))))
def a0l:Z9:=(QR e6Q (.block 0 (.loop Gs)))
theorem jC:Zz prog UJ=some (36,a0l,[]):=by kernel_rfl
@[simp]def iT:=[wx 1 0,wb 2 false]
@[simp]def iR:=[yf 6 0 1,wl 7 6,wn 8 7,wc 9 .gtr 8 6,wm 10 9,jf 11 10 1 1,ql 12 10 11,Yn 13 10 12,qc 14 10 .gtr 13 60,wq 15 10 14,wm 16 15,jf 17 16 2 1,ql 18 16 17,Yn 19 16 18,qc 20 16 .gtr 19 30,wq 21 16 20]
@[simp]def iQ:=[wb 2 false]
@[simp]def iP:=[wk 3 0]
@[simp]def iO:=[wm 22 3,yf 23 1 1,wl 24 23,wn 25 24,wt 26 .lss 22 25]
@[simp]def iN:=[yf 29 1 1,wl 30 29,wm 31 3,wi 32 22 30 31,ws 33 32 22,oo 4 (.alloc [zi,zi,zi,zi,zb,zi,zs,zi,zi,zi, .nil 3,zi,zi,zb,zi,zs,zb,zi,zs, .nil 9, .nil 5,zb]),wo 4 33 22]
@[simp]def iM:=[yf 34 20 4,wl 35 34,wn 36 35,wc 37 .gtr 36 12,wm 38 37,jf 39 38 10 4,ql 40 38 39,Yn 41 38 40,qc 42 38 .gtr 41 12,wq 43 38 42,wm 44 43,jf 45 44 11 4,Ws 46 44 45 9,og 47 44 false (.call Mk [(T 46),(K 0)]),Yu 48 44 47,wq 49 44 48]
@[simp]def iL:=[wb 2 false]
@[simp]def iK:=[wm 27 3,wc 28 .add 27 1,wm 3 28]
def Gh:Z9:=
 (Q (QR iO (CX 26 0)) (Q (.block 1 (QR iN (QR iM (CR 49 iL)))) (R iK)))
@[simp]def BQ:=[wk 5 0]
@[simp]def BP:=[wm 50 5,yf 51 2 1,wl 52 51,wn 53 52,wt 54 .lss 50 53]
@[simp]def BO:=[yf 57 2 1,wl 58 57,wm 59 5,wi 60 5 58 59,yf 61 4 60,wl 62 61,wn 63 62,wc 64 .gtr 63 20]
@[simp]def BN:=[wb 2 false]
@[simp]def BM:=[wm 55 5,wc 56 .add 55 1,wm 5 56]
def KI:Z9:=
 (Q (QR BP (CX 54 2)) (Q (.block 3 (QR BO (CR 64 BN))) (R BM)))
@[simp]def BL:=[wb 2 true]
def a0a:Z9:=(QR iT (Q (QR iR (CR 21 iQ)) (Q (QR iP (.block 0 (.loop Gh))) (Q (QR BQ (.block 2 (.loop KI))) (QR BL .ret)))))
theorem iJ:Zz prog VL=some (65,a0a,[.tmp 2]):=by kernel_rfl
@[simp]def iI:=[wx 1 0,wb 2 false]
@[simp]def iH:=[ws 9 1 3,Y1 10 H6 9,wm 3 10]
@[simp]def iG:=[wm 11 3,wu 12 11]
@[simp]def iF:=[wb 2 false]
@[simp]def iE:=[wk 4 0]
@[simp]def iD:=[wm 13 4,yf 14 1 1,wl 15 14,wn 16 15,wt 17 .lss 13 16]
@[simp]def iC:=[ws 20 1 3,wm 21 4,Y2 22 H5 20 21,wm 5 22]
@[simp]def iB:=[ws 23 1 3,wm 24 4,Y2 25 H4 23 24,wm 6 25]
@[simp]def iA:=[wm 26 5,wu 27 26,wm 28 27,qm 29 28 6,Yu 30 28 29,wq 31 28 30]
@[simp]def iz:=[wb 2 false]
@[simp]def BK:=[wm 18 4,wc 19 .add 18 1,wm 4 19]
def KN:Z9:=
 (Q (QR iD (CX 17 0)) (Q (.block 1 (QR iC (QR iB (QR iA (CR 31 iz))))) (R BK)))
@[simp]def BJ:=[wk 7 0]
@[simp]def BI:=[wm 32 7,yf 33 2 1,wl 34 33,wn 35 34,wt 36 .lss 32 35]
@[simp]def BH:=[ws 39 1 3,wm 40 7,Y2 41 H3 39 40,wm 8 41]
@[simp]def BG:=[wm 42 8,wu 43 42]
@[simp]def BF:=[wb 2 false]
@[simp]def BE:=[wm 37 7,wc 38 .add 37 1,wm 7 38]
def KM:Z9:=
 (Q (QR BI (CX 36 2)) (Q (.block 3 (QR BH (QR BG (CR 43 BF)))) (R BE)))
@[simp]def BD:=[wb 2 true]
def a1a:Z9:=(QR iI (QR iH (Q (QR iG (CR 12 iF)) (Q (QR iE (.block 0 (.loop KN))) (Q (QR BJ (.block 2 (.loop KM))) (QR BD .ret))))))
theorem jc:Zz prog R2=some (44,a1a,[.tmp 2]):=by kernel_rfl
@[simp]def iy:=[wx 3 0,wx 5 2,wz 6 2]
@[simp]def iw:=[oo 12 (.build [zi,zi] []),oo 13 (.lit 2 1 [(0,(T 12))]),wm 7 13]
@[simp]def iu:=[wk 8 0]
@[simp]def iq:=[wm 14 8,yf 15 2 3,wl 16 15,wn 17 16,wt 18 .lss 14 17]
@[simp]def il:=[yf 21 2 3,wl 22 21,wm 23 8,wi 24 5 22 23,ws 25 24 5,oo 9 (.alloc [zi,zb,zi,zs, .nil 1]),wo 9 25 5]
@[simp]def ik:=[yf 26 0 9,wl 27 26,wm 28 1,wt 29 .neq 27 28,wm 30 29,jf 31 30 1 9,Ws 32 30 31 3,Ws 33 30 5 3,og 34 30 false (.eqs true [.b, .i .i64, .s] (T 32) (T 33)),wq 35 30 34]
@[simp]def ij:=[wk 10 0]
@[simp]def ig:=[wm 36 10,yf 37 4 9,wl 38 37,wn 39 38,wt 40 .lss 36 39]
@[simp]def ie:VT:=
 Ys 43 3 3<|Yf 44 1 3<|yl 45 44<|vn 46 45<|Yf 47 4 9<|yl 48 47<|ym 49 10<|yi 50 1 48 49<|yl 51 50<|ym 52 1<|Ys 53 5 3<|j5 54 Wz 43 46 51 52 53<|ym 11 54<|.done
@[simp]def ic:=[wm 55 7,yf 56 4 9,wl 57 56,wm 58 10,wi 59 1 57 58,wl 60 59,wm 61 11,oo 62 (.build [zi,zi] [(0,1,(T 60)),(1,1,(T 61))]),oo 63 (.lit 2 1 [(0,(T 62))]),oo 64 (.app 2 16 (T 55) (T 63)),wm 7 64]
@[simp]def BB:=[wm 41 10,wc 42 .add 41 1,wm 10 42]
def PC:Z9:=
 (Q (QR ig (CX 40 2)) (Q (.block 3 (Q (.any ie) (R ic))) (R BB)))
@[simp]def BA:=[wm 19 8,wc 20 .add 19 1,wm 8 20]
def TR:Z9:=
 (Q (QR iq (CX 18 0)) (Q (.block 1 (QR il (Q (QR ik (CT 35 (.exit 1) .skip)) (QR ij (.block 2 (.loop PC)))))) (R BA)))
@[simp]def Bz:=[wm 65 7,wm 6 65]
def a2a:Z9:=(QR iy (QR iw (Q (QR iu (.block 0 (.loop TR))) (QR Bz .ret))))
theorem ib:Zz prog R1=some (66,a2a,[.tmp 6]):=by kernel_rfl
@[simp]def hZ:=[wx 2 0,wb 4 false]
@[simp]def hM:=[ws 5 2 3,wm 6 1,Y2 7 HZ 5 6,wc 8 .eql 7 5,wm 4 8]
def a3a:Z9:=(QR hZ (QR hM .ret))
theorem oS:Zz prog UL=some (9,a3a,[.tmp 4]):=by kernel_rfl
@[simp]def gZ:=[wx 1 0,wz 2 1]
@[simp]def gY:=[wz 3 1]
@[simp]def gX:=[ws 7 1 3,Y1 8 HY 7,wm 4 8]
@[simp]def gV:=[wk 5 0]
@[simp]def gU:=[wm 9 5,wm 10 4,wn 11 10,wt 12 .lss 9 11]
@[simp]def gT:VT:=
 Ys 15 1 3<|ym 16 4<|ym 17 5<|yi 18 1 16 17<|yl 19 18<|V2 20 UL 15 19<|ym 6 20<|.done
@[simp]def gQ:=[wm 21 6]
@[simp]def gO:=[wm 22 3,wm 23 4,wm 24 5,wi 25 1 23 24,wl 26 25,oo 27 (.lit 1 1 [(0,(T 26))]),oo 28 (.app 1 8 (T 22) (T 27)),wm 3 28]
@[simp]def gN:=[wm 13 5,wc 14 .add 13 1,wm 5 14]
def NA:Z9:=
 (Q (QR gU (CX 12 0)) (Q (.block 1 (Q (.any gT) (QR gQ (CT 21 (R gO) .skip)))) (R gN)))
@[simp]def By:=[wm 29 3,wm 2 29]
def a4a:Z9:=(QR gZ (QR gY (QR gX (Q (QR gV (.block 0 (.loop NA))) (QR By .ret)))))
theorem pZ:Zz prog Mn=some (30,a4a,[.tmp 2]):=by kernel_rfl
@[simp]def f4P:=[wb 4 false]
@[simp]def f5P:=[wm 6 0,wn 7 6,wm 8 1,wn 9 8,wt 10 .neq 7 9]
@[simp]def f6P:=[wb 4 false]
@[simp]def f7P:=[wk 5 0]
@[simp]def f8P:=[wm 11 5,wm 12 0,wn 13 12,wt 14 .lss 11 13]
@[simp]def f9P:VT:=
 ym 17 0<|ym 18 5<|yi 19 1 17 18<|yl 20 19<|ym 21 1<|ym 22 5<|yi 23 1 21 22<|yl 24 23<|vt 25 .neq 20 24<|.done
@[simp]def f0Q:=[wb 4 false]
@[simp]def f1Q:=[wm 15 5,wc 16 .add 15 1,wm 5 16]
@[simp]def f2Q:=[wb 4 true]
@[simp]def gM:=[wx 2 0,wk 4 0]
@[simp]def gL:=[wk 5 0]
@[simp]def gK:=[wm 6 5,yf 7 1 2,wl 8 7,wn 9 8,wt 10 .lss 6 9]
@[simp]def gJ:=[yf 13 1 2,wl 14 13,wm 15 5,wi 16 22 14 15,yf 17 1 16,wl 18 17,wc 19 .eql 18 1,wm 20 19,qf 21 20 1 2,Yl 22 20 21,Ym 23 20 5,Yi 24 20 22 22 23,qf 25 20 0 24,Yl 26 20 25,Ym 27 20 1,Yt 28 20 .eql 26 27,wp 29 20 28]
@[simp]def gI:=[yf 30 1 2,wl 31 30,wm 32 5,wi 33 22 31 32,yf 34 2 33,wl 35 34,wm 4 35]
@[simp]def gH:=[wm 11 5,wc 12 .add 11 1,wm 5 12]
def GO:Z9:=
 (Q (QR gK (CX 10 0)) (Q (.block 1 (QR gJ (CR 29 gI))) (R gH)))
@[simp]def gG:=[wk 4 0]
def a6a:Z9:=(QR gM (Q (QR gL (.block 0 (.loop GO))) (QR gG .ret)))
theorem oQ:Zz prog Ib=some (36,a6a,[.tmp 4]):=by kernel_rfl
@[simp]def gD:=[wx 2 0,wb 4 false]
@[simp]def gB:=[wm 7 1,wc 8 .gtr 7 6,wm 9 8,jf 10 9 8 2,ql 11 9 10,Yn 12 9 11,qc 13 9 .gtr 12 6,wq 14 9 13]
@[simp]def gA:=[wb 4 false]
@[simp]def gy:=[wk 5 0]
@[simp]def gx:=[wm 15 5,yf 16 8 2,wl 17 16,wn 18 17,wt 19 .lss 15 18]
@[simp]def gw:=[yf 22 8 2,wl 23 22,wm 24 5,wi 25 9 23 24,ws 26 25 9,wm 27 1,wc 28 .add 27 1,Y2 29 Mk 26 28,wm 6 29]
@[simp]def gu:=[wm 30 6,wu 31 30]
@[simp]def gq:=[wb 4 false]
@[simp]def gp:=[wm 20 5,wc 21 .add 20 1,wm 5 21]
def Gg:Z9:=
 (Q (QR gx (CX 19 0)) (Q (.block 1 (QR gw (QR gu (CR 31 gq)))) (R gp)))
@[simp]def Bx:=[ws 32 2 9,Y1 33 OJ 32,wc 34 .leq 33 30,wm 4 34]
def c0M:Z9:=(QR gD (Q (QR gB (CR 14 gA)) (Q (QR gy (.block 0 (.loop Gg))) (QR Bx .ret))))
theorem gn:Zz prog Mk=some (35,c0M,[.tmp 4]):=by kernel_rfl
@[simp]def gl:=[wx 1 0,oo 2 (.Td (.const (.pointer none)))]
@[simp]def gk:=[ws 13 1 3,Y1 14 HX 13,wc 15 .neq 14 0]
@[simp]def gj:=[oo 2 (.Td (.const (.pointer none)))]
@[simp]def gi:=[oo 16 (.XD (false,[.i .i64],false)),oo 17 (.XD (true,[.i .i64, .b, .i .i64, .s, .i .i64, .i .i64],false)),oo 18 (.XD (true,[.i .i64, .b, .i .i64, .s, .i .i64, .i .i64],false)),oo 19 (.XD (true,[.i .i64, .b, .i .i64, .s],false)),oo 20 (.build [.iv (.v (.map none)), .nil 1, .iv (.v (.map none)), .iv (.v (.map none)), .iv (.v (.map none))] [(0,1,(T 16)),(2,1,(T 17)),(3,1,(T 18)),(4,1,(T 19))]),wx 21 20,wm 3 21]
@[simp]def gg:=[yf 22 1 1,wl 23 22,wn 24 23,wk 25 0]
@[simp]def gf:=[wt 26 .lss 25 24]
@[simp]def gb:=[wi 27 22 23 25,ws 28 27 22,oo 5 (.alloc [zi,zi,zi,zi,zb,zi,zs,zi,zi,zi, .nil 3,zi,zi,zb,zi,zs,zb,zi,zs, .nil 9, .nil 5,zb]),wo 5 28 22]
@[simp]def ga:=[yf 29 3 5,wl 30 29,yf 31 4 5,ws 32 31 3,oo 33 (.build [zi,zb,zi,zs] [(0,1,(T 30)),(1,3,(T 32))]),oo 6 (.alloc [zi,zb,zi,zs]),wo 6 33 4]
@[simp]def fZ:=[yf 34 1 5,wl 35 34]
@[simp]def fY:=[wc 37 .eql 35 1,wm 36 37]
@[simp]def Bw:VT:=
 ym 38 3<|vh 39 38<|Yf 40 0 39<|yl 41 40<|Yf 42 0 5<|yl 43 42<|Yf 44 2 5<|yl 45 44<|.op (on (.YI (false,[.i .i64],false) (T 41) (T 43) (T 45)))<|.done
@[simp]def Bv:=[wc 47 .eql 35 5,wm 46 47]
@[simp]def Bu:VT:=
 ym 48 3<|ym 49 3<|vh 50 49<|Yf 51 1 50<|yl 52 51<|Yf 53 0 5<|yl 54 53<|oc 55 (.lit 1 1 [(0,(T 54))])<|oc 56 (.app 1 8 (T 52) (T 55))<|vh 57 48<|Yf 58 1 57<|V (wo 58 56 1)<|.done
@[simp]def Bt:=[wc 60 .eql 35 3,wm 59 60]
@[simp]def M1:VT:=
 yl 69 68<|oc 70 (.build [zi,zi] [(0,1,(T 67)),(1,1,(T 69))])<|oc 71 (.build [zi,zb,zi,zs,zi,zi] [(0,4,(T 65)),(4,2,(T 70))])<|V1 74 Yb 73<|.op (on (.YI (true,[.i .i64, .b, .i .i64, .s, .i .i64, .i .i64],false) (T 64) (T 71) (T 74)))<|.done
@[simp]def M0:VT:=
 V1 74 Yb 73<|yl 69 68<|oc 70 (.build [zi,zi] [(0,1,(T 67)),(1,1,(T 69))])<|oc 71 (.build [zi,zb,zi,zs,zi,zi] [(0,4,(T 65)),(4,2,(T 70))])<|.op (on (.YI (true,[.i .i64, .b, .i .i64, .s, .i .i64, .i .i64],false) (T 64) (T 71) (T 74)))<|.done
@[simp]def Gf:VT:=
 yl 67 66<|.alt (M1) (M0)
@[simp]def MZ:VT:=
 yl 67 66<|oc 70 (.build [zi,zi] [(0,1,(T 67)),(1,1,(T 69))])<|oc 71 (.build [zi,zb,zi,zs,zi,zi] [(0,4,(T 65)),(4,2,(T 70))])<|V1 74 Yb 73<|.op (on (.YI (true,[.i .i64, .b, .i .i64, .s, .i .i64, .i .i64],false) (T 64) (T 71) (T 74)))<|.done
@[simp]def MY:VT:=
 V1 74 Yb 73<|yl 67 66<|oc 70 (.build [zi,zi] [(0,1,(T 67)),(1,1,(T 69))])<|oc 71 (.build [zi,zb,zi,zs,zi,zi] [(0,4,(T 65)),(4,2,(T 70))])<|.op (on (.YI (true,[.i .i64, .b, .i .i64, .s, .i .i64, .i .i64],false) (T 64) (T 71) (T 74)))<|.done
@[simp]def Ge:VT:=
 yl 69 68<|.alt (MZ) (MY)
@[simp]def Gd:VT:=
 V1 74 Yb 73<|yl 67 66<|yl 69 68<|oc 70 (.build [zi,zi] [(0,1,(T 67)),(1,1,(T 69))])<|oc 71 (.build [zi,zb,zi,zs,zi,zi] [(0,4,(T 65)),(4,2,(T 70))])<|.op (on (.YI (true,[.i .i64, .b, .i .i64, .s, .i .i64, .i .i64],false) (T 64) (T 71) (T 74)))<|.done
@[simp]def fX:VT:=
 Ys 65 6 4<|.alt (Gf) (.alt (Ge) (Gd))
@[simp]def Gc:VT:=
 Ys 65 6 4<|.alt (M1) (M0)
@[simp]def MX:VT:=
 Ys 65 6 4<|oc 71 (.build [zi,zb,zi,zs,zi,zi] [(0,4,(T 65)),(4,2,(T 70))])<|V1 74 Yb 73<|.op (on (.YI (true,[.i .i64, .b, .i .i64, .s, .i .i64, .i .i64],false) (T 64) (T 71) (T 74)))<|.done
@[simp]def PB:VT:=
 V1 74 Yb 73<|Ys 65 6 4<|oc 71 (.build [zi,zb,zi,zs,zi,zi] [(0,4,(T 65)),(4,2,(T 70))])<|.op (on (.YI (true,[.i .i64, .b, .i .i64, .s, .i .i64, .i .i64],false) (T 64) (T 71) (T 74)))<|.done
@[simp]def KH:VT:=
 yl 69 68<|oc 70 (.build [zi,zi] [(0,1,(T 67)),(1,1,(T 69))])<|.alt (MX) (PB)
@[simp]def KG:VT:=
 V1 74 Yb 73<|Ys 65 6 4<|yl 69 68<|oc 70 (.build [zi,zi] [(0,1,(T 67)),(1,1,(T 69))])<|oc 71 (.build [zi,zb,zi,zs,zi,zi] [(0,4,(T 65)),(4,2,(T 70))])<|.op (on (.YI (true,[.i .i64, .b, .i .i64, .s, .i .i64, .i .i64],false) (T 64) (T 71) (T 74)))<|.done
@[simp]def Bs:VT:=
 yl 67 66<|.alt (Gc) (.alt (KH) (KG))
@[simp]def KF:VT:=
 Ys 65 6 4<|.alt (MZ) (MY)
@[simp]def KE:VT:=
 yl 67 66<|oc 70 (.build [zi,zi] [(0,1,(T 67)),(1,1,(T 69))])<|.alt (MX) (PB)
@[simp]def KD:VT:=
 V1 74 Yb 73<|Ys 65 6 4<|yl 67 66<|oc 70 (.build [zi,zi] [(0,1,(T 67)),(1,1,(T 69))])<|oc 71 (.build [zi,zb,zi,zs,zi,zi] [(0,4,(T 65)),(4,2,(T 70))])<|.op (on (.YI (true,[.i .i64, .b, .i .i64, .s, .i .i64, .i .i64],false) (T 64) (T 71) (T 74)))<|.done
@[simp]def Br:VT:=
 yl 69 68<|.alt (KF) (.alt (KE) (KD))
@[simp]def Bq:VT:=
 V1 74 Yb 73<|Ys 65 6 4<|yl 67 66<|yl 69 68<|oc 70 (.build [zi,zi] [(0,1,(T 67)),(1,1,(T 69))])<|oc 71 (.build [zi,zb,zi,zs,zi,zi] [(0,4,(T 65)),(4,2,(T 70))])<|.op (on (.YI (true,[.i .i64, .b, .i .i64, .s, .i .i64, .i .i64],false) (T 64) (T 71) (T 74)))<|.done
@[simp]def Bp:VT:=
 .alt (Bs) (.alt (Br) (Bq))
@[simp]def Bo:VT:=
 yl 64 63<|.alt (fX) (Bp)
@[simp]def Bn:VT:=
 yl 64 63<|.alt (Gf) (.alt (Ge) (Gd))
@[simp]def KC:VT:=
 yl 64 63<|.alt (M1) (M0)
@[simp]def PA:VT:=
 yl 64 63<|V1 74 Yb 73<|.op (on (.YI (true,[.i .i64, .b, .i .i64, .s, .i .i64, .i .i64],false) (T 64) (T 71) (T 74)))<|.done
@[simp]def Pz:VT:=
 V1 74 Yb 73<|yl 64 63<|.op (on (.YI (true,[.i .i64, .b, .i .i64, .s, .i .i64, .i .i64],false) (T 64) (T 71) (T 74)))<|.done
@[simp]def KB:VT:=
 yl 69 68<|oc 70 (.build [zi,zi] [(0,1,(T 67)),(1,1,(T 69))])<|oc 71 (.build [zi,zb,zi,zs,zi,zi] [(0,4,(T 65)),(4,2,(T 70))])<|.alt (PA) (Pz)
@[simp]def KA:VT:=
 V1 74 Yb 73<|yl 64 63<|yl 69 68<|oc 70 (.build [zi,zi] [(0,1,(T 67)),(1,1,(T 69))])<|oc 71 (.build [zi,zb,zi,zs,zi,zi] [(0,4,(T 65)),(4,2,(T 70))])<|.op (on (.YI (true,[.i .i64, .b, .i .i64, .s, .i .i64, .i .i64],false) (T 64) (T 71) (T 74)))<|.done
@[simp]def Bm:VT:=
 yl 67 66<|.alt (KC) (.alt (KB) (KA))
@[simp]def Kz:VT:=
 yl 64 63<|.alt (MZ) (MY)
@[simp]def Ky:VT:=
 yl 67 66<|oc 70 (.build [zi,zi] [(0,1,(T 67)),(1,1,(T 69))])<|oc 71 (.build [zi,zb,zi,zs,zi,zi] [(0,4,(T 65)),(4,2,(T 70))])<|.alt (PA) (Pz)
@[simp]def Kx:VT:=
 V1 74 Yb 73<|yl 64 63<|yl 67 66<|oc 70 (.build [zi,zi] [(0,1,(T 67)),(1,1,(T 69))])<|oc 71 (.build [zi,zb,zi,zs,zi,zi] [(0,4,(T 65)),(4,2,(T 70))])<|.op (on (.YI (true,[.i .i64, .b, .i .i64, .s, .i .i64, .i .i64],false) (T 64) (T 71) (T 74)))<|.done
@[simp]def Bl:VT:=
 yl 69 68<|.alt (Kz) (.alt (Ky) (Kx))
@[simp]def Bj:VT:=
 V1 74 Yb 73<|yl 64 63<|yl 67 66<|yl 69 68<|oc 70 (.build [zi,zi] [(0,1,(T 67)),(1,1,(T 69))])<|oc 71 (.build [zi,zb,zi,zs,zi,zi] [(0,4,(T 65)),(4,2,(T 70))])<|.op (on (.YI (true,[.i .i64, .b, .i .i64, .s, .i .i64, .i .i64],false) (T 64) (T 71) (T 74)))<|.done
@[simp]def Bi:VT:=
 .alt (Bm) (.alt (Bl) (Bj))
@[simp]def Bh:VT:=
 Ys 65 6 4<|.alt (Bn) (Bi)
@[simp]def Bg:VT:=
 yl 64 63<|.alt (Gc) (.alt (KH) (KG))
@[simp]def Bf:VT:=
 Ys 65 6 4<|.alt (KC) (.alt (KB) (KA))
@[simp]def Kw:VT:=
 yl 64 63<|.alt (MX) (PB)
@[simp]def Kv:VT:=
 Ys 65 6 4<|oc 71 (.build [zi,zb,zi,zs,zi,zi] [(0,4,(T 65)),(4,2,(T 70))])<|.alt (PA) (Pz)
@[simp]def Ku:VT:=
 V1 74 Yb 73<|yl 64 63<|Ys 65 6 4<|oc 71 (.build [zi,zb,zi,zs,zi,zi] [(0,4,(T 65)),(4,2,(T 70))])<|.op (on (.YI (true,[.i .i64, .b, .i .i64, .s, .i .i64, .i .i64],false) (T 64) (T 71) (T 74)))<|.done
@[simp]def Be:VT:=
 yl 69 68<|oc 70 (.build [zi,zi] [(0,1,(T 67)),(1,1,(T 69))])<|.alt (Kw) (.alt (Kv) (Ku))
@[simp]def Bd:VT:=
 V1 74 Yb 73<|yl 64 63<|Ys 65 6 4<|yl 69 68<|oc 70 (.build [zi,zi] [(0,1,(T 67)),(1,1,(T 69))])<|oc 71 (.build [zi,zb,zi,zs,zi,zi] [(0,4,(T 65)),(4,2,(T 70))])<|.op (on (.YI (true,[.i .i64, .b, .i .i64, .s, .i .i64, .i .i64],false) (T 64) (T 71) (T 74)))<|.done
@[simp]def Bc:VT:=
 .alt (Bf) (.alt (Be) (Bd))
@[simp]def Bb:VT:=
 yl 67 66<|.alt (Bg) (Bc)
@[simp]def Ba:VT:=
 yl 64 63<|.alt (KF) (.alt (KE) (KD))
@[simp]def A9:VT:=
 Ys 65 6 4<|.alt (Kz) (.alt (Ky) (Kx))
@[simp]def A8:VT:=
 yl 67 66<|oc 70 (.build [zi,zi] [(0,1,(T 67)),(1,1,(T 69))])<|.alt (Kw) (.alt (Kv) (Ku))
@[simp]def A7:VT:=
 V1 74 Yb 73<|yl 64 63<|Ys 65 6 4<|yl 67 66<|oc 70 (.build [zi,zi] [(0,1,(T 67)),(1,1,(T 69))])<|oc 71 (.build [zi,zb,zi,zs,zi,zi] [(0,4,(T 65)),(4,2,(T 70))])<|.op (on (.YI (true,[.i .i64, .b, .i .i64, .s, .i .i64, .i .i64],false) (T 64) (T 71) (T 74)))<|.done
@[simp]def A6:VT:=
 .alt (A9) (.alt (A8) (A7))
@[simp]def A5:VT:=
 yl 69 68<|.alt (Ba) (A6)
@[simp]def A4:VT:=
 V1 74 Yb 73<|yl 64 63<|Ys 65 6 4<|yl 67 66<|yl 69 68<|oc 70 (.build [zi,zi] [(0,1,(T 67)),(1,1,(T 69))])<|oc 71 (.build [zi,zb,zi,zs,zi,zi] [(0,4,(T 65)),(4,2,(T 70))])<|.op (on (.YI (true,[.i .i64, .b, .i .i64, .s, .i .i64, .i .i64],false) (T 64) (T 71) (T 74)))<|.done
@[simp]def A3:VT:=
 .alt (Bb) (.alt (A5) (A4))
@[simp]def A1:VT:=
 ym 61 3<|vh 62 61<|Yf 63 2 62<|Yf 66 0 5<|Yf 68 9 5<|Yf 72 10 5<|yl 73 72<|.alt (Bo) (.alt (Bh) (A3))
@[simp]def A0:VT:=
 ym 75 3<|vh 76 75<|Yf 77 3 76<|yl 78 77<|Ys 79 6 4<|Yf 80 0 5<|yl 81 80<|oc 82 (.build [zi,zi] [(0,1,(T 81))])<|oc 83 (.build [zi,zb,zi,zs,zi,zi] [(0,4,(T 79)),(4,2,(T 82))])<|Yf 84 9 5<|yl 85 84<|.op (on (.YI (true,[.i .i64, .b, .i .i64, .s, .i .i64, .i .i64],false) (T 78) (T 83) (T 85)))<|.done
@[simp]def AZ:=[wc 86 .add 25 1,wm 25 86]
def U7:Z9:=
 (QR gf (Q (CX 26 0) (Q (.block 1 (QR gb (QR ga (QR fZ (.block 2 (QR fY (CT 36 (.any Bw) (QR Bv (CT 46 (.any Bu) (QR Bt (CT 59 (Q (.any A1) (.any A0)) .skip))))))))))) (R AZ))))
@[simp]def AY:=[wm 87 3,wh 88 87,yf 89 1 88,wl 90 89,Y1 91 L5 90]
@[simp]def AX:=[yf 92 2 1,wl 93 92,wn 94 93,wk 95 0]
@[simp]def AW:=[wt 96 .lss 95 94]
@[simp]def AU:=[wi 97 5 93 95,ws 98 97 5,oo 8 (.alloc [zi,zb,zi,zs, .nil 1]),wo 8 98 5]
@[simp]def AT:=[yf 99 0 8,wl 100 99,yf 101 1 8,ws 102 101 3,oo 103 (.build [zi,zb,zi,zs] [(0,1,(T 100)),(1,3,(T 102))]),oo 9 (.alloc [zi,zb,zi,zs]),wo 9 103 4]
@[simp]def AS:=[oo 104 (.build [zi,zi] []),oo 105 (.lit 2 1 [(0,(T 104))]),wm 10 105]
@[simp]def AQ:=[yf 106 4 8,wl 107 106,wn 108 107,wk 109 0]
@[simp]def AP:=[wt 110 .lss 109 108]
@[simp]def AO:=[wi 111 1 107 109,wl 112 111,wm 12 112]
@[simp]def AN:VT:=
 ym 113 10<|ym 114 12<|ym 115 3<|vh 116 115<|Yf 117 3 116<|yl 118 117<|Ys 119 9 4<|ym 120 12<|oc 121 (.build [zi,zi] [(0,1,(T 120))])<|oc 122 (.build [zi,zb,zi,zs,zi,zi] [(0,4,(T 119)),(4,2,(T 121))])<|oc 123 (.UT (true,[.i .i64, .b, .i .i64, .s, .i .i64, .i .i64],false) [zi] (T 118) (T 122) false)<|oc 124 (.build [zi,zi] [(0,1,(T 114)),(1,1,(T 123))])<|oc 125 (.lit 2 1 [(0,(T 124))])<|oc 126 (.app 2 16 (T 113) (T 125))<|ym 10 126<|.done
@[simp]def AL:=[wc 127 .add 109 1,wm 109 127]
def Py:Z9:=
 (QR AP (Q (CX 110 5) (Q (.block 6 (QR AO (.any AN))) (R AL))))
@[simp]def AK:VT:=
 ym 128 3<|vh 129 128<|Yf 130 4 129<|yl 131 130<|Ys 132 9 4<|ym 133 10<|.op (on (.YI (true,[.i .i64, .b, .i .i64, .s],false) (T 131) (T 132) (T 133)))<|.done
@[simp]def AJ:=[wc 134 .add 95 1,wm 95 134]
def Px:Z9:=
 (QR AW (Q (CX 96 3) (Q (.block 4 (QR AU (QR AT (QR AS (Q (QR AQ (.block 5 (.loop Py))) (.any AK)))))) (R AJ))))
@[simp]def AI:=[wm 135 3,wm 2 135]
def a8a:Z9:=(QR gl (Q (QR gk (CR 15 gj)) (QR gi (Q (QR gg (.block 0 (.loop U7))) (QR AY (Q (QR AX (.block 3 (.loop Px))) (QR AI .ret)))))))
theorem Gb:Zz prog RZ=some (136,a8a,[.tmp 2]):=by kernel_rfl
@[simp]def fW:=[wz 2 1]
@[simp]def fV:=[wm 3 0,oo 4 (.peq false (T 3) (.const (.pointer none)))]
@[simp]def fU:=[wz 2 1]
@[simp]def fT:=[wm 5 0,wh 6 5,yf 7 1 6,wl 8 7,Y1 9 L4 8,wm 2 9]
def a9a:Z9:=(QR fW (Q (QR fV (CR 4 fU)) (QR fT .ret)))
theorem pg:Zz prog Mi=some (10,a9a,[.tmp 2]):=by kernel_rfl
@[simp]def fS:=[wx 1 0,wb 2 false]
@[simp]def fR:=[yf 5 0 1,wl 6 5,wn 7 6,wc 8 .lss 7 1,wm 9 8,jf 10 9 0 1,ql 11 9 10,Yn 12 9 11,qc 13 9 .gtr 12 3,wq 14 9 13]
@[simp]def fQ:=[wb 2 false]
@[simp]def fP:=[wk 3 0]
@[simp]def fO:=[wm 15 3,yf 16 0 1,wl 17 16,wn 18 17,wt 19 .lss 15 18]
@[simp]def fN:=[yf 22 0 1,wl 23 22,wm 24 3,wi 25 1 23 24,ws 26 25 1,Y1 27 OG 26,wm 4 27]
@[simp]def fM:=[wm 28 4,wu 29 28]
@[simp]def fL:=[wb 2 false]
@[simp]def fK:=[wm 20 3,wc 21 .add 20 1,wm 3 21]
def Gl:Z9:=
 (Q (QR fO (CX 19 0)) (Q (.block 1 (QR fN (QR fM (CR 29 fL)))) (R fK)))
@[simp]def AH:=[wb 2 true]
def c1M:Z9:=(QR fS (Q (QR fR (CR 14 fQ)) (Q (QR fP (.block 0 (.loop Gl))) (QR AH .ret))))
theorem jd:Zz prog H6=some (30,c1M,[.tmp 2]):=by kernel_rfl
@[simp]def fJ:=[wx 2 0,wb 4 false]
@[simp]def fI:=[ws 6 2 3,wm 7 1,Y2 8 HU 6 7,wm 5 8]
@[simp]def fH:=[wm 9 5,wu 10 9]
@[simp]def fG:=[wb 4 false]
@[simp]def fF:=[yf 11 1 2,wl 12 11,wm 13 1,wi 14 22 12 13,yf 15 1 14,wl 16 15]
@[simp]def fE:=[wc 18 .eql 16 2,wm 17 18]
@[simp]def fD:=[ws 19 2 3,wm 20 1,Y2 21 HT 19 20,wm 4 21]
@[simp]def fC:=[wc 23 .eql 16 3,wm 22 23]
@[simp]def fB:=[ws 24 2 3,wm 25 1,Y2 26 HS 24 25,wm 4 26]
@[simp]def fA:=[wc 28 .eql 16 4,wm 27 28]
@[simp]def AG:=[ws 29 2 3,wm 30 1,Y2 31 HR 29 30,wm 4 31]
@[simp]def AF:=[wb 4 true]
def c2M:Z9:=(QR fJ (QR fI (Q (QR fH (CR 10 fG)) (Q (QR fF (.block 0 (QR fE (CT 17 (QR fD .ret) (QR fC (CT 22 (QR fB .ret) (QR fA (CR 27 AG)))))))) (QR AF .ret)))))
theorem jh:Zz prog H5=some (32,c2M,[.tmp 4]):=by kernel_rfl
@[simp]def fz:=[wx 2 0,wb 4 false]
@[simp]def fy:=[yf 10 1 2,wl 11 10,wm 12 1,wi 13 22 11 12,ws 14 13 22,oo 5 (.alloc [zi,zi,zi,zi,zb,zi,zs,zi,zi,zi, .nil 3,zi,zi,zb,zi,zs,zb,zi,zs, .nil 9, .nil 5,zb]),wo 5 14 22]
@[simp]def fx:=[ws 15 2 3,yf 16 0 5,wl 17 16,Y2 18 UL 15 17,wm 6 18]
@[simp]def fw:=[yf 19 1 5,wl 20 19,wc 21 .neq 20 3,wm 22 21,qm 23 22 6,Yu 24 22 23,wq 25 22 24]
@[simp]def fu:=[wb 4 true]
@[simp]def ft:=[wk 7 0]
@[simp]def fq:=[wm 26 7,yf 27 2 2,wl 28 27,wn 29 28,wt 30 .lss 26 29]
@[simp]def fp:=[yf 33 2 2,wl 34 33,wm 35 7,wi 36 5 34 35,ws 37 36 5,oo 8 (.alloc [zi,zb,zi,zs, .nil 1]),wo 8 37 5]
@[simp]def fm:=[yf 38 0 8,wl 39 38,yf 40 3 5,wl 41 40,wt 42 .neq 39 41,wm 43 42,jf 44 43 1 8,Ws 45 43 44 3,jf 46 43 4 5,Ws 47 43 46 3,og 48 43 false (.eqs true [.b, .i .i64, .s] (T 45) (T 47)),wq 49 43 48]
@[simp]def fl:=[wk 9 0]
@[simp]def AE:=[wm 50 9,yf 51 4 8,wl 52 51,wn 53 52,wt 54 .lss 50 53]
@[simp]def AB:VT:=
 Yf 57 4 8<|yl 58 57<|ym 59 9<|yi 60 1 58 59<|yl 61 60<|Yf 62 0 5<|yl 63 62<|vt 64 .eql 61 63<|.done
@[simp]def AA:=[wb 4 true]
@[simp]def Az:=[wm 55 9,wc 56 .add 55 1,wm 9 56]
def KQ:Z9:=
 (Q (QR AE (CX 54 2)) (Q (.block 3 (Q (.any AB) (CR 64 AA))) (R Az)))
@[simp]def Ay:=[wm 31 7,wc 32 .add 31 1,wm 7 32]
def KR:Z9:=
 (Q (QR fq (CX 30 0)) (Q (.block 1 (QR fp (Q (QR fm (CT 49 (.exit 1) .skip)) (QR fl (.block 2 (.loop KQ)))))) (R Ay)))
@[simp]def Ax:=[wb 4 false]
def c3M:Z9:=(QR fz (QR fy (QR fx (Q (QR fw (CR 25 fu)) (Q (QR ft (.block 0 (.loop KR))) (QR Ax .ret))))))
theorem jg:Zz prog H4=some (65,c3M,[.tmp 4]):=by kernel_rfl
@[simp]def fk:=[wx 2 0,wb 4 false]
@[simp]def fj:=[yf 10 2 2,wl 11 10,wm 12 1,wi 13 5 11 12,ws 14 13 5,oo 5 (.alloc [zi,zb,zi,zs, .nil 1]),wo 5 14 5]
@[simp]def fh:=[wk 6 0]
@[simp]def fg:=[wm 15 6,wm 16 1,wt 17 .lss 15 16]
@[simp]def ff:VT:=
 Yf 20 2 2<|yl 21 20<|ym 22 6<|yi 23 5 21 22<|Yf 24 0 23<|yl 25 24<|Yf 26 0 5<|yl 27 26<|vt 28 .eql 25 27<|ym 29 28<|V (qf 30 29 2 2)<|V (Yl 31 29 30)<|V (Ym 32 29 6)<|V (Yi 33 29 5 31 32)<|V (qf 34 29 1 33)<|V (qs 35 29 34 3)<|V (qf 36 29 1 5)<|V (qs 37 29 36 3)<|V (og 38 29 true (.eqs false [.b, .i .i64, .s] (T 35) (T 37)))<|yp 39 29 38<|.done
@[simp]def fe:=[wb 4 false]
@[simp]def fb:=[wm 18 6,wc 19 .add 18 1,wm 6 19]
def Gm:Z9:=
 (Q (QR fg (CX 17 0)) (Q (.block 1 (Q (.any ff) (CR 39 fe))) (R fb)))
@[simp]def e8:=[wk 7 0]
@[simp]def e7:=[wm 40 7,yf 41 4 5,wl 42 41,wn 43 42,wt 44 .lss 40 43]
@[simp]def Aw:VT:=
 Ys 47 2 3<|Yf 48 4 5<|yl 49 48<|ym 50 7<|yi 51 1 49 50<|yl 52 51<|V2 53 UL 47 52<|ym 8 53<|.done
@[simp]def Av:VT:=
 ym 54 8<|vu 55 54<|ym 56 55<|V (Ws 57 56 2 3)<|V (jf 58 56 1 2)<|V (ql 59 56 58)<|V (Yn 60 56 59)<|V (jf 61 56 4 5)<|V (ql 62 56 61)<|V (qm 63 56 7)<|V (qi 64 56 1 62 63)<|V (ql 65 56 64)<|V (jf 66 56 0 5)<|V (ql 67 56 66)<|V (jf 68 56 1 5)<|V (Ws 69 56 68 3)<|V (W5 70 56 Wz 57 60 65 67 69)<|V (qc 71 56 .eql 70 0)<|vq 72 56 71<|.done
@[simp]def Au:=[wb 4 false]
@[simp]def As:=[wk 9 0]
@[simp]def Ar:=[wm 73 9,wm 74 7,wt 75 .lss 73 74]
@[simp]def Aq:VT:=
 Yf 78 4 5<|yl 79 78<|ym 80 9<|yi 81 1 79 80<|yl 82 81<|Yf 83 4 5<|yl 84 83<|ym 85 7<|yi 86 1 84 85<|yl 87 86<|vt 88 .eql 82 87<|.done
@[simp]def Ap:=[wb 4 false]
@[simp]def Ao:=[wm 76 9,wc 77 .add 76 1,wm 9 77]
def KO:Z9:=
 (Q (QR Ar (CX 75 4)) (Q (.block 5 (Q (.any Aq) (CR 88 Ap))) (R Ao)))
@[simp]def An:=[wm 45 7,wc 46 .add 45 1,wm 7 46]
def KP:Z9:=
 (Q (QR e7 (CX 44 2)) (Q (.block 3 (Q (.any Aw) (Q (Q (.any Av) (CR 72 Au)) (QR As (.block 4 (.loop KO)))))) (R An)))
@[simp]def Am:=[yf 89 4 5,wl 90 89,wn 91 90,wc 92 .gtr 91 0,wm 4 92]
def c4M:Z9:=(QR fk (QR fj (Q (QR fh (.block 0 (.loop Gm))) (Q (QR e8 (.block 2 (.loop KP))) (QR Am .ret)))))
theorem je:Zz prog H3=some (93,c4M,[.tmp 4]):=by kernel_rfl
@[simp]def e6:=[wx 5 0,wx 9 4,wk 10 0]
@[simp]def eZ:=[wk 11 0]
@[simp]def eY:=[wk 12 0]
@[simp]def eX:=[wm 14 12,wm 15 1,wt 16 .lss 14 15,wm 17 16,Ym 18 17 12,qf 19 17 1 5,Yl 20 17 19,yn 21 17 20,Yt 22 17 .lss 18 21,wp 23 17 22]
@[simp]def eW:=[yf 26 1 5,wl 27 26,wm 28 12,wi 29 22 27 28,ws 30 29 22,oo 13 (.alloc [zi,zi,zi,zi,zb,zi,zs,zi,zi,zi, .nil 3,zi,zi,zb,zi,zs,zb,zi,zs, .nil 9, .nil 5,zb]),wo 13 30 22]
@[simp]def eV:=[yf 31 1 13,wl 32 31,wc 33 .eql 32 3,wm 34 33,qf 35 34 0 13,Yl 36 34 35,Ym 37 34 2,Yt 38 34 .eql 36 37,wp 39 34 38,wm 40 39,qf 41 40 3 13,Yl 42 40 41,Ym 43 40 3,Yt 44 40 .eql 42 43,wp 45 40 44,wm 46 45,qf 47 46 4 13,qs 48 46 47 3,qs 49 46 9 3,og 50 46 true (.eqs false [.b, .i .i64, .s] (T 48) (T 49)),wp 51 46 50]
@[simp]def eU:=[wm 52 11,wc 53 .add 52 1,wm 11 53]
@[simp]def eT:=[wm 24 12,wc 25 .add 24 1,wm 12 25]
def Hm:Z9:=
 (Q (QR eX (CX 23 0)) (Q (.block 1 (QR eW (QR eV (CT 51 (R eU) .skip)))) (R eT)))
@[simp]def eR:=[wm 54 11,wm 10 54]
def a4b:Z9:=(QR e6 (QR eZ (Q (QR eY (.block 0 (.loop Hm))) (QR eR .ret))))
theorem pT:Zz prog Wz=some (55,a4b,[.tmp 10]):=by kernel_rfl
@[simp]def eQ:=[wx 2 0,wk 4 0]
@[simp]def eN:=[wk 5 0]
@[simp]def eM:=[wm 7 5,yf 8 1 2,wl 9 8,wn 10 9,wt 11 .lss 7 10]
@[simp]def eL:=[yf 14 1 2,wl 15 14,wm 16 5,wi 17 22 15 16,ws 18 17 22,oo 6 (.alloc [zi,zi,zi,zi,zb,zi,zs,zi,zi,zi, .nil 3,zi,zi,zb,zi,zs,zb,zi,zs, .nil 9, .nil 5,zb]),wo 6 18 22]
@[simp]def eK:=[yf 19 0 6,wl 20 19,wm 21 1,wt 22 .eql 20 21,wm 23 22,qf 24 23 1 6,Yl 25 23 24,Yc 26 23 .eql 25 5,Ym 27 23 26,jf 28 27 1 6,ql 29 27 28,qc 30 27 .eql 29 6,yq 31 23 27 30,wp 32 23 31]
@[simp]def eJ:=[yf 33 1 6,wl 34 33,wm 4 34]
@[simp]def eH:=[wm 12 5,wc 13 .add 12 1,wm 5 13]
def Hl:Z9:=
 (Q (QR eM (CX 11 0)) (Q (.block 1 (QR eL (QR eK (CR 32 eJ)))) (R eH)))
@[simp]def eG:=[wk 4 0]
def a5b:Z9:=(QR eQ (Q (QR eN (.block 0 (.loop Hl))) (QR eG .ret)))
theorem pS:Zz prog HZ=some (35,a5b,[.tmp 4]):=by kernel_rfl
@[simp]def eF:=[wx 1 0,wz 2 1]
@[simp]def eE:=[wz 3 1]
@[simp]def eD:=[wk 4 0]
@[simp]def eC:=[wm 8 4,yf 9 1 1,wl 10 9,wn 11 10,wt 12 .lss 8 11]
@[simp]def eB:=[yf 15 1 1,wl 16 15,wm 17 4,wi 18 22 16 17,ws 19 18 22,oo 5 (.alloc [zi,zi,zi,zi,zb,zi,zs,zi,zi,zi, .nil 3,zi,zi,zb,zi,zs,zb,zi,zs, .nil 9, .nil 5,zb]),wo 5 19 22]
@[simp]def ez:=[yf 20 1 5,wl 21 20,wc 22 .neq 21 1]
@[simp]def ey:=[wk 6 0]
@[simp]def ew:VT:=
 ym 23 6<|ym 24 3<|vn 25 24<|vt 26 .lss 23 25<|ym 27 26<|V (Ym 28 27 3)<|V (Ym 29 27 6)<|V (Yi 30 27 1 28 29)<|V (Yl 31 27 30)<|V (qf 32 27 0 5)<|V (Yl 33 27 32)<|V (Yt 34 27 .lss 31 33)<|yp 35 27 34<|.done
@[simp]def er:=[wm 36 6,wc 37 .add 36 1,wm 6 37]
def RR:Z9:=
 (Q (Q (.any ew) (CX 35 2)) (.block 3 (R er)))
@[simp]def Al:VT:=
 ym 38 6<|ym 39 3<|vn 40 39<|vt 41 .lss 38 40<|ym 42 41<|V (Ym 43 42 3)<|V (Ym 44 42 6)<|V (Yi 45 42 1 43 44)<|V (Yl 46 42 45)<|V (qf 47 42 0 5)<|V (Yl 48 42 47)<|V (Yt 49 42 .eql 46 48)<|yp 50 42 49<|.done
@[simp]def Ak:=[wz 7 1]
@[simp]def Aj:=[wm 51 7,wm 52 3,wm 53 6,oo 54 (.cut 1 (T 52) none (some (T 53))),oo 55 (.app 1 8 (T 51) (T 54)),wm 7 55]
@[simp]def Ai:=[wm 56 7,yf 57 0 5,wl 58 57,oo 59 (.lit 1 1 [(0,(T 58))]),oo 60 (.app 1 8 (T 56) (T 59)),wm 7 60]
@[simp]def Ah:=[wm 61 7,wm 62 3,wm 63 6,oo 64 (.cut 1 (T 62) (some (T 63)) none),oo 65 (.app 1 8 (T 61) (T 64)),wm 7 65]
@[simp]def Ag:=[wm 66 7,wm 3 66]
@[simp]def Af:=[wm 13 4,wc 14 .add 13 1,wm 4 14]
def SD:Z9:=
 (Q (QR eC (CX 12 0)) (Q (.block 1 (QR eB (Q (QR ez (CT 22 (.exit 1) .skip)) (QR ey (Q (.block 2 (.loop RR)) (Q (Q (.any Al) (CT 50 (.exit 1) .skip)) (QR Ak (QR Aj (QR Ai (QR Ah (R Ag))))))))))) (R Af)))
@[simp]def Ae:=[wm 67 3,wm 2 67]
def a6b:Z9:=(QR eF (QR eE (Q (QR eD (.block 0 (.loop SD))) (QR Ae .ret))))
theorem p7:Zz prog HY=some (68,a6b,[.tmp 2]):=by kernel_rfl
@[simp]def eo:=[wx 6 2,wx 7 3,wz 8 3,wb 9 false]
@[simp]def en:=[wm 12 0,oo 13 (.peq false (T 12) (.const (.pointer none)))]
@[simp]def ek:=[wz 8 3,wb 9 false]
@[simp]def ej:=[ws 14 7 2,oo 15 (.build [zi,zi] []),oo 16 (.eqs false [.i .i64, .i .i64] (T 14) (T 15))]
@[simp]def ei:=[wz 8 3,wb 9 true]
@[simp]def eh:VT:=
 ym 18 0<|vh 19 18<|Yf 20 2 19<|yl 21 20<|ym 22 1<|Ys 23 6 3<|oc 24 (.build [zi,zb,zi,zs] [(0,1,(T 22)),(1,3,(T 23))])<|Ys 25 7 2<|oc 26 (.build [zi,zb,zi,zs,zi,zi] [(0,4,(T 24)),(4,2,(T 25))])<|oc 27 (.UT (true,[.i .i64, .b, .i .i64, .s, .i .i64, .i .i64],false) [.nil 3] (T 21) (T 26) true)<|ym 17 27<|ve 28 0 17<|ve 29 1 17<|ym 10 28<|ym 11 29<|.done
@[simp]def eg:=[wm 30 10,Y1 31 Yb 30,wm 32 11,wm 8 31,wm 9 32]
def a7b:Z9:=(QR eo (Q (QR en (CR 13 ek)) (Q (QR ej (CR 16 ei)) (Q (.any eh) (QR eg .ret)))))
theorem pf:Zz prog OL=some (33,a7b,[.tmp 8, .tmp 9]):=by kernel_rfl
@[simp]def ef:=[wx 1 0,wk 2 0]
@[simp]def ea:=[wk 3 1]
@[simp]def dZ:=[wk 4 0]
@[simp]def dY:=[wm 5 4,yf 6 8 1,wl 7 6,wn 8 7,wt 9 .lss 5 8]
@[simp]def dX:=[wm 12 3,yf 13 8 1,wl 14 13,wm 15 4,wi 16 9 14 15,ws 17 16 9,Y1 18 OJ 17,wt 19 .add 12 18,wm 3 19]
@[simp]def dW:=[wm 10 4,wc 11 .add 10 1,wm 4 11]
def GN:Z9:=
 (Q (QR dY (CX 9 0)) (Q (.block 1 (R dX)) (R dW)))
@[simp]def dV:=[wm 20 3,wm 2 20]
def a8b:Z9:=(QR ef (QR ea (Q (QR dZ (.block 0 (.loop GN))) (QR dV .ret))))
theorem oO:Zz prog OJ=some (21,a8b,[.tmp 2]):=by kernel_rfl
@[simp]def dU:=[wx 1 0,wk 2 0]
@[simp]def dT:=[ws 10 1 3,oo 11 (.XD (false,[.i .i64],false)),oo 12 (.XD (true,[.i .i64, .i .i64, .b, .i .i64, .s],false)),oo 13 (.XD (false,[.i .i64],false)),oo 14 (.build [.nil 1, .nil 22, .nil 5, .iv (.v (.map none)), .iv (.v (.map none)), .iv (.v (.map none))] [(0,3,(T 10)),(3,1,(T 11)),(4,1,(T 12)),(5,1,(T 13))]),wx 15 14,oo 3 (.alloc [.iv (.v (.pointer none))]),wo 3 15 1]
@[simp]def dS:=[oo 16 (.V6 RW [] [(T 3)]),wm 4 16]
@[simp]def dR:=[wl 17 3,oo 18 (.V6 QE [(T 17)] []),wm 5 18]
@[simp]def dQ:=[yf 19 0 1,wl 20 19,wn 21 20,wc 22 .lss 21 1,wm 23 22,jf 24 23 0 1,ql 25 23 24,Yn 26 23 25,qc 27 23 .gtr 26 3,wq 28 23 27]
@[simp]def dP:=[yf 29 0 1,wl 30 29,wn 31 30,wk 32 0]
@[simp]def dO:=[wt 33 .lss 32 31]
@[simp]def dN:=[wi 34 1 30 32,ws 35 34 1,oo 7 (.alloc [.nil 1]),wo 7 35 1]
@[simp]def dM:=[ws 36 7 1,Y1 37 OD 36,wc 38 .neq 37 0]
@[simp]def dL:=[wc 39 .add 32 1,wm 32 39]
def KK:Z9:=
 (QR dO (Q (CX 33 0) (Q (.block 1 (QR dN (QR dM (CT 38 (.goto 0) .skip)))) (R dL))))
@[simp]def Ad:=[yf 40 1 1,wl 41 40,wn 42 41,wk 43 0]
@[simp]def Ac:=[wt 44 .lss 43 42]
@[simp]def Ab:=[wi 45 22 41 43,ws 46 45 22,oo 9 (.alloc [zi,zi,zi,zi,zb,zi,zs,zi,zi,zi, .nil 3,zi,zi,zb,zi,zs,zb,zi,zs, .nil 9, .nil 5,zb]),wo 9 46 22]
@[simp]def Aa:=[wm 47 4,ws 48 9 22,oo 49 (.Yz (T 47) [(T 48)]),wu 50 49]
@[simp]def z8:=[wc 51 .add 43 1,wm 43 51]
def KJ:Z9:=
 (QR Ac (Q (CX 44 2) (Q (.block 3 (QR Ab (QR Aa (CT 50 (.goto 0) .skip)))) (R z8))))
@[simp]def z7:=[wm 52 5,oo 53 (.Yz (T 52) [])]
@[simp]def z6:=[wk 2 0]
@[simp]def zZ:=[wk 2 180]
@[simp]def zY:=[wk 2 180]
def a9b:Z9:=(QR dU (.WR (QR dT (QR dS (QR dR (Q (QR dQ (CT 28 (.goto 0) .skip)) (Q (QR dP (.block 0 (.loop KK))) (Q (QR Ad (.block 2 (.loop KJ))) (Q (QR z7 (CR 53 z6)) (Q .skip (QR zZ .ret))))))))) 0 (Q .skip (QR zY .ret))))
theorem iV:Zz prog HX=some (54,a9b,[.tmp 2]):=by kernel_rfl
@[simp]def dK:=[wz 2 3]
@[simp]def dJ:=[wm 3 0,Y1 4 HM 3,wm 2 4]
def a0c:Z9:=(QR dK (QR dJ .ret))
theorem pH:Zz prog Yb=some (5,a0c,[.tmp 2]):=by kernel_rfl
@[simp]def dI:=[wz 2 1]
@[simp]def dH:=[wm 3 0,oo 4 (.Qg false (T 3))]
@[simp]def dG:=[wz 2 1]
@[simp]def dF:=[oo 5 (.lit 1 0 []),wm 6 0,oo 7 (.app 1 8 (T 5) (T 6)),wm 2 7]
def Qc:Z9:=(QR dI (Q (QR dH (CR 4 dG)) (QR dF .ret)))
theorem pJ:Zz prog L4=some (8,Qc,[.tmp 2]):=by kernel_rfl
@[simp]def dE:=[wx 6 2,wx 7 3,wk 8 0]
@[simp]def dD:=[wm 12 0,wm 13 1,ws 14 6 3,ws 15 7 2,Y4 16 OL 12 13 14 15,wm 11 16,we 17 0 11,we 18 1 11,wm 9 17,wm 10 18]
@[simp]def dC:=[wm 19 10,wu 20 19]
@[simp]def dB:=[wk 8 (-1)]
@[simp]def dA:=[wm 21 0,wm 22 1,ws 23 6 3,Y3 24 OC 21 22 23,oo 25 (.V6 QD [] [(T 7)]),Y2 26 HL 24 25,wm 8 26]
def a3c:Z9:=(QR dE (Q (QR dD (QR dC (CR 20 dB))) (QR dA .ret)))
theorem pa:Zz prog L3=some (27,a3c,[.tmp 8]):=by kernel_rfl
@[simp]def dz:=[wx 5 2,wz 6 2]
@[simp]def dy:=[wm 9 0,oo 10 (.peq false (T 9) (.const (.pointer none)))]
@[simp]def dx:=[wz 6 2]
@[simp]def dw:=[wm 11 0,wm 12 1,ws 13 5 3,Y3 14 OC 11 12 13,wm 7 14]
@[simp]def dv:=[wm 15 7,wn 16 15,oo 17 (.mks 2 16 [zi,zi] (T 16) (T 16)),wm 8 17]
@[simp]def du:=[wm 18 8,wm 19 7,oo 20 (.cpy 2 (T 18) (T 19))]
@[simp]def dt:=[wm 21 8,wm 6 21]
def a4c:Z9:=(QR dz (Q (QR dy (CR 10 dx)) (QR dw (QR dv (QR du (QR dt .ret))))))
theorem pd:Zz prog OH=some (22,a4c,[.tmp 6]):=by kernel_rfl
@[simp]def dr:=[wx 5 0,wx 6 1,wx 7 2,wx 9 4,wb 10 false]
@[simp]def dq:=[wl 13 5,oo 14 (.peq false (T 13) (.const (.pointer none)))]
@[simp]def dp:=[wb 10 false]
@[simp]def dn:=[wl 15 5,wl 16 6,ws 17 7 3,Y3 18 OC 15 16 17,wm 11 18]
@[simp]def dm:=[wm 19 3,wc 20 .lss 19 1,wm 21 20,qm 22 21 3,qm 23 21 11,Yn 24 21 23,qt 25 21 .geq 22 24,wq 26 21 25]
@[simp]def dj:=[wb 10 false]
@[simp]def di:=[oo 27 (.V6 LU [] [(T 5),(T 6),(T 7),(T 9)]),wm 12 27]
@[simp]def dh:VT:=
 oc 34 (.Yz (T 28) [(T 33)])<|Ys 39 38 2<|oc 40 (.Yz (T 35) [(T 39)])<|oc 41 (.beq true (T 34) (T 40))<|ym 10 41<|.done
@[simp]def dg:VT:=
 Ys 39 38 2<|oc 34 (.Yz (T 28) [(T 33)])<|oc 40 (.Yz (T 35) [(T 39)])<|oc 41 (.beq true (T 34) (T 40))<|ym 10 41<|.done
@[simp]def df:VT:=
 ym 28 12<|ym 29 11<|ym 30 3<|yc 31 .sub 30 1<|yi 32 2 29 31<|Ys 33 32 2<|ym 35 12<|ym 36 11<|ym 37 3<|yi 38 2 36 37<|.alt (dh) (dg)
def a5c:Z9:=(QR dr (Q (QR dq (CR 14 dp)) (QR dn (Q (QR dm (CR 26 dj)) (QR di (Q (.any df) .ret))))))
theorem oV:Zz prog L2=some (42,a5c,[.tmp 10]):=by kernel_rfl
@[simp]def de:=[wx 2 0,wx 3 1,wk 4 0]
@[simp]def dc:=[yf 6 0 2,wl 7 6,wm 8 7,qf 9 8 0 3,Yl 10 8 9,wp 11 8 10,wm 5 11]
@[simp]def db:=[yf 12 2 2,wl 13 12,yf 14 2 3,wl 15 14,Y2 16 HK 13 15,wm 4 16]
@[simp]def da:=[yf 18 0 2,wl 19 18,wm 17 19]
@[simp]def c9:=[wk 4 1]
@[simp]def c8:=[yf 21 0 3,wl 22 21,wm 20 22]
@[simp]def c7:=[wk 4 (-1)]
@[simp]def c6:=[yf 23 1 2,wl 24 23,yf 25 1 3,wl 26 25,Y2 27 HJ 24 26,wm 4 27]
def a6c:Z9:=(QR de (Q (.block 0 (QR dc (CT 5 (QR db .ret) (QR da (CT 17 (QR c9 .ret) (QR c8 (CR 20 c7))))))) (QR c6 .ret)))
theorem pz:Zz prog QF=some (28,a6c,[.tmp 4]):=by kernel_rfl
@[simp]def c5:=[wx 4 0,wx 6 2,wx 7 3,wk 8 0]
@[simp]def cZ:=[ws 14 4 3,wm 15 1,ws 16 6 3,ws 17 7 2,Y4 18 LQ 14 15 16 17,wm 13 18,we 19 0 13,we 20 1 13,wm 9 19,wm 10 20]
@[simp]def cY:=[ws 21 4 3,wm 22 1,ws 23 6 3,Y3 24 R1 21 22 23,wm 11 24]
@[simp]def cX:=[wk 12 0]
@[simp]def cW:=[wm 25 12,wm 26 11,wn 27 26,wt 28 .lss 25 27,wm 29 28,Ym 30 29 10,wp 31 29 30]
@[simp]def cV:VT:=
 ym 34 11<|ym 35 12<|yi 36 2 34 35<|Yf 37 0 36<|yl 38 37<|Yf 39 0 7<|yl 40 39<|vt 41 .eql 38 40<|.done
@[simp]def cU:=[wm 42 12,wm 8 42]
@[simp]def cT:=[wm 32 12,wc 33 .add 32 1,wm 12 33]
def RC:Z9:=
 (Q (QR cW (CX 31 0)) (Q (.block 1 (Q (.any cV) (CR 41 cU))) (R cT)))
@[simp]def cS:=[wk 8 (-1)]
def a7c:Z9:=(QR c5 (QR cZ (QR cY (Q (QR cX (.block 0 (.loop RC))) (QR cS .ret)))))
theorem cR:Zz prog L1=some (43,a7c,[.tmp 8]):=by kernel_rfl
@[simp]def cQ:=[wx 5 0,wx 7 2,wx 9 4,wb 10 false]
@[simp]def cP:=[ws 12 5 3,wm 13 1,ws 14 7 3,Y3 15 R1 12 13 14,wm 11 15]
@[simp]def cO:=[wm 16 3,wc 17 .lss 16 1,wm 18 17,qm 19 18 3,qm 20 18 11,Yn 21 18 20,qt 22 18 .geq 19 21,wq 23 18 22]
@[simp]def cN:=[wb 10 false]
@[simp]def cM:VT:=
 j5 33 Zj 24 25 26 31 32<|Ys 34 5 3<|Ys 36 7 3<|Ys 40 39 2<|Ys 41 9 9<|j5 42 Zj 34 35 36 40 41<|oc 43 (.beq true (T 33) (T 42))<|ym 10 43<|.done
@[simp]def cL:VT:=
 j5 33 Zj 24 25 26 31 32<|Ys 36 7 3<|Ys 40 39 2<|Ys 41 9 9<|j5 42 Zj 34 35 36 40 41<|oc 43 (.beq true (T 33) (T 42))<|ym 10 43<|.done
@[simp]def Ga:VT:=
 j5 33 Zj 24 25 26 31 32<|Ys 40 39 2<|Ys 41 9 9<|j5 42 Zj 34 35 36 40 41<|oc 43 (.beq true (T 33) (T 42))<|ym 10 43<|.done
@[simp]def MW:VT:=
 j5 33 Zj 24 25 26 31 32<|Ys 41 9 9<|j5 42 Zj 34 35 36 40 41<|oc 43 (.beq true (T 33) (T 42))<|ym 10 43<|.done
@[simp]def MV:VT:=
 Ys 41 9 9<|j5 33 Zj 24 25 26 31 32<|j5 42 Zj 34 35 36 40 41<|oc 43 (.beq true (T 33) (T 42))<|ym 10 43<|.done
@[simp]def F9:VT:=
 Ys 40 39 2<|.alt (MW) (MV)
@[simp]def MU:VT:=
 j5 33 Zj 24 25 26 31 32<|Ys 40 39 2<|j5 42 Zj 34 35 36 40 41<|oc 43 (.beq true (T 33) (T 42))<|ym 10 43<|.done
@[simp]def MT:VT:=
 Ys 40 39 2<|j5 33 Zj 24 25 26 31 32<|j5 42 Zj 34 35 36 40 41<|oc 43 (.beq true (T 33) (T 42))<|ym 10 43<|.done
@[simp]def F8:VT:=
 Ys 41 9 9<|.alt (MU) (MT)
@[simp]def cK:VT:=
 Ys 36 7 3<|.alt (Ga) (.alt (F9) (F8))
@[simp]def Kt:VT:=
 j5 33 Zj 24 25 26 31 32<|Ys 36 7 3<|Ys 41 9 9<|j5 42 Zj 34 35 36 40 41<|oc 43 (.beq true (T 33) (T 42))<|ym 10 43<|.done
@[simp]def zX:VT:=
 Ys 36 7 3<|.alt (MW) (MV)
@[simp]def Pw:VT:=
 j5 33 Zj 24 25 26 31 32<|Ys 36 7 3<|j5 42 Zj 34 35 36 40 41<|oc 43 (.beq true (T 33) (T 42))<|ym 10 43<|.done
@[simp]def Pv:VT:=
 Ys 36 7 3<|j5 33 Zj 24 25 26 31 32<|j5 42 Zj 34 35 36 40 41<|oc 43 (.beq true (T 33) (T 42))<|ym 10 43<|.done
@[simp]def zW:VT:=
 Ys 41 9 9<|.alt (Pw) (Pv)
@[simp]def Ks:VT:=
 .alt (zX) (zW)
@[simp]def zV:VT:=
 Ys 40 39 2<|.alt (Kt) (Ks)
@[simp]def Kr:VT:=
 j5 33 Zj 24 25 26 31 32<|Ys 36 7 3<|Ys 40 39 2<|j5 42 Zj 34 35 36 40 41<|oc 43 (.beq true (T 33) (T 42))<|ym 10 43<|.done
@[simp]def zU:VT:=
 Ys 36 7 3<|.alt (MU) (MT)
@[simp]def zT:VT:=
 Ys 40 39 2<|.alt (Pw) (Pv)
@[simp]def Kq:VT:=
 .alt (zU) (zT)
@[simp]def zS:VT:=
 Ys 41 9 9<|.alt (Kr) (Kq)
@[simp]def zR:VT:=
 .alt (zV) (zS)
@[simp]def zQ:VT:=
 Ys 34 5 3<|.alt (cL) (.alt (cK) (zR))
@[simp]def zP:VT:=
 j5 33 Zj 24 25 26 31 32<|Ys 34 5 3<|Ys 40 39 2<|Ys 41 9 9<|j5 42 Zj 34 35 36 40 41<|oc 43 (.beq true (T 33) (T 42))<|ym 10 43<|.done
@[simp]def zO:VT:=
 Ys 34 5 3<|.alt (Ga) (.alt (F9) (F8))
@[simp]def Kp:VT:=
 j5 33 Zj 24 25 26 31 32<|Ys 34 5 3<|Ys 41 9 9<|j5 42 Zj 34 35 36 40 41<|oc 43 (.beq true (T 33) (T 42))<|ym 10 43<|.done
@[simp]def zN:VT:=
 Ys 34 5 3<|.alt (MW) (MV)
@[simp]def Pu:VT:=
 j5 33 Zj 24 25 26 31 32<|Ys 34 5 3<|j5 42 Zj 34 35 36 40 41<|oc 43 (.beq true (T 33) (T 42))<|ym 10 43<|.done
@[simp]def Pt:VT:=
 Ys 34 5 3<|j5 33 Zj 24 25 26 31 32<|j5 42 Zj 34 35 36 40 41<|oc 43 (.beq true (T 33) (T 42))<|ym 10 43<|.done
@[simp]def zM:VT:=
 Ys 41 9 9<|.alt (Pu) (Pt)
@[simp]def Ko:VT:=
 .alt (zN) (zM)
@[simp]def zL:VT:=
 Ys 40 39 2<|.alt (Kp) (Ko)
@[simp]def Kn:VT:=
 j5 33 Zj 24 25 26 31 32<|Ys 34 5 3<|Ys 40 39 2<|j5 42 Zj 34 35 36 40 41<|oc 43 (.beq true (T 33) (T 42))<|ym 10 43<|.done
@[simp]def zK:VT:=
 Ys 34 5 3<|.alt (MU) (MT)
@[simp]def zJ:VT:=
 Ys 40 39 2<|.alt (Pu) (Pt)
@[simp]def Km:VT:=
 .alt (zK) (zJ)
@[simp]def zI:VT:=
 Ys 41 9 9<|.alt (Kn) (Km)
@[simp]def zH:VT:=
 .alt (zL) (zI)
@[simp]def zG:VT:=
 .alt (zO) (zH)
@[simp]def zF:VT:=
 Ys 36 7 3<|.alt (zP) (zG)
@[simp]def zD:VT:=
 j5 33 Zj 24 25 26 31 32<|Ys 34 5 3<|Ys 36 7 3<|Ys 41 9 9<|j5 42 Zj 34 35 36 40 41<|oc 43 (.beq true (T 33) (T 42))<|ym 10 43<|.done
@[simp]def zC:VT:=
 Ys 34 5 3<|.alt (Kt) (Ks)
@[simp]def zB:VT:=
 Ys 36 7 3<|.alt (Kp) (Ko)
@[simp]def Kl:VT:=
 j5 33 Zj 24 25 26 31 32<|Ys 34 5 3<|Ys 36 7 3<|j5 42 Zj 34 35 36 40 41<|oc 43 (.beq true (T 33) (T 42))<|ym 10 43<|.done
@[simp]def zA:VT:=
 Ys 34 5 3<|.alt (Pw) (Pv)
@[simp]def zz:VT:=
 Ys 36 7 3<|.alt (Pu) (Pt)
@[simp]def Kk:VT:=
 .alt (zA) (zz)
@[simp]def zy:VT:=
 Ys 41 9 9<|.alt (Kl) (Kk)
@[simp]def zx:VT:=
 .alt (zB) (zy)
@[simp]def zw:VT:=
 .alt (zC) (zx)
@[simp]def zu:VT:=
 Ys 40 39 2<|.alt (zD) (zw)
@[simp]def zt:VT:=
 j5 33 Zj 24 25 26 31 32<|Ys 34 5 3<|Ys 36 7 3<|Ys 40 39 2<|j5 42 Zj 34 35 36 40 41<|oc 43 (.beq true (T 33) (T 42))<|ym 10 43<|.done
@[simp]def zr:VT:=
 Ys 34 5 3<|.alt (Kr) (Kq)
@[simp]def zq:VT:=
 Ys 36 7 3<|.alt (Kn) (Km)
@[simp]def zp:VT:=
 Ys 40 39 2<|.alt (Kl) (Kk)
@[simp]def zo:VT:=
 .alt (zq) (zp)
@[simp]def zn:VT:=
 .alt (zr) (zo)
@[simp]def zm:VT:=
 Ys 41 9 9<|.alt (zt) (zn)
@[simp]def zl:VT:=
 .alt (zu) (zm)
@[simp]def zk:VT:=
 .alt (zF) (zl)
@[simp]def zj:VT:=
 .alt (zQ) (zk)
@[simp]def cJ:VT:=
 Ys 24 5 3<|ym 25 1<|Ys 26 7 3<|ym 27 11<|ym 28 3<|yc 29 .sub 28 1<|yi 30 2 27 29<|Ys 31 30 2<|Ys 32 9 9<|ym 35 1<|ym 37 11<|ym 38 3<|yi 39 2 37 38<|.alt (cM) (zj)
def a8c:Z9:=(QR cQ (QR cP (Q (QR cO (CR 23 cN)) (Q (.any cJ) .ret))))
theorem jy:Zz prog LZ=some (44,a8c,[.tmp 10]):=by kernel_rfl
@[simp]def cI:=[wx 1 0,wb 2 false]
@[simp]def cH:=[yf 3 0 1,wl 4 3,wn 5 4,wc 6 .geq 5 1,wm 7 6,qf 8 7 0 1,Yl 9 7 8,yn 10 7 9,Yc 11 7 .leq 10 4,wp 12 7 11,wm 2 12]
def a9c:Z9:=(QR cI (QR cH .ret))
theorem jv:Zz prog OG=some (13,a9c,[.tmp 2]):=by kernel_rfl
@[simp]def cG:=[wx 2 0,wb 4 false]
@[simp]def cF:=[yf 9 1 2,wl 10 9,wm 11 1,wi 12 22 10 11,ws 13 12 22,oo 5 (.alloc [zi,zi,zi,zi,zb,zi,zs,zi,zi,zi, .nil 3,zi,zi,zb,zi,zs,zb,zi,zs, .nil 9, .nil 5,zb]),wo 5 13 22]
@[simp]def cE:=[yf 14 0 5,wl 15 14,wc 16 .lss 15 1,wm 17 16,jf 18 17 1 5,ql 19 17 18,qc 20 17 .lss 19 1,wq 21 17 20,wm 22 21,jf 23 22 1 5,ql 24 22 23,qc 25 22 .gtr 24 6,wq 26 22 25]
@[simp]def cD:=[wb 4 false]
@[simp]def cC:=[wb 6 false]
@[simp]def cB:=[wk 7 0]
@[simp]def cA:=[wm 27 7,wm 28 1,wt 29 .lss 27 28]
@[simp]def cz:=[yf 32 1 2,wl 33 32,wm 34 7,wi 35 22 33 34,ws 36 35 22,oo 8 (.alloc [zi,zi,zi,zi,zb,zi,zs,zi,zi,zi, .nil 3,zi,zi,zb,zi,zs,zb,zi,zs, .nil 9, .nil 5,zb]),wo 8 36 22]
@[simp]def cw:=[yf 37 0 8,wl 38 37,yf 39 0 5,wl 40 39,wt 41 .neq 38 40]
@[simp]def cv:=[wb 6 true]
@[simp]def zh:=[yf 42 1 8,wl 43 42,wc 44 .eql 43 5,wm 45 44,jf 46 45 1 8,ql 47 45 46,qc 48 45 .eql 47 6,wq 49 45 48]
@[simp]def zg:=[wb 4 false]
@[simp]def zf:=[wm 30 7,wc 31 .add 30 1,wm 7 31]
def PD:Z9:=
 (Q (QR cA (CX 29 0)) (Q (.block 1 (QR cz (Q (QR cw (CT 41 (.exit 1) .skip)) (QR cv (QR zh (CR 49 zg)))))) (R zf)))
@[simp]def ze:=[yf 50 1 5,wl 51 50,wc 52 .eql 51 1]
@[simp]def zd:=[wm 53 6,wu 54 53,wm 55 54,qf 56 55 2 5,Yl 57 55 56,Yc 58 55 .geq 57 1,wp 59 55 58,wm 60 59,qf 61 60 2 5,Yl 62 60 61,Yc 63 60 .leq 62 5,wp 64 60 63,wm 4 64]
@[simp]def zc:=[wm 65 6,wm 4 65]
def c5M:Z9:=(QR cG (QR cF (Q (QR cE (CR 26 cD)) (QR cC (Q (QR cB (.block 0 (.loop PD))) (Q (QR ze (CR 52 zd)) (QR zc .ret)))))))
theorem jm:Zz prog HU=some (66,c5M,[.tmp 4]):=by kernel_rfl
@[simp]def cu:=[wx 2 0,wb 4 false]
@[simp]def cr:=[yf 9 1 2,wl 10 9,wm 11 1,wi 12 22 10 11,ws 13 12 22,oo 5 (.alloc [zi,zi,zi,zi,zb,zi,zs,zi,zi,zi, .nil 3,zi,zi,zb,zi,zs,zb,zi,zs, .nil 9, .nil 5,zb]),wo 5 13 22]
@[simp]def cq:=[ws 14 2 3,yf 15 3 5,wl 16 15,yf 17 4 5,ws 18 17 3,Y3 19 OB 14 16 18,wm 6 19]
@[simp]def cp:=[wm 20 6,wu 21 20]
@[simp]def cn:=[wb 4 false]
@[simp]def cm:=[ws 22 2 3,wm 23 1,yf 24 0 5,wl 25 24,yf 26 3 5,wl 27 26,yf 28 4 5,ws 29 28 3,Y5 30 Wz 22 23 25 27 29,wm 7 30]
@[simp]def cj:=[wm 31 7,wc 32 .gtr 31 0]
@[simp]def cg:=[yf 33 7 5,ws 34 33 2,yf 35 0 5,wl 36 35,wm 37 7,oo 38 (.build [zi,zi] [(0,1,(T 36)),(1,1,(T 37))]),oo 39 (.eqs false [.i .i64, .i .i64] (T 34) (T 38)),wm 4 39]
@[simp]def cf:=[oo 40 (.build [zi,zi] []),oo 8 (.alloc [zi,zi]),wo 8 40 2]
@[simp]def cd:=[yf 41 7 5,ws 42 41 2,ws 43 8 2,oo 44 (.eqs false [.i .i64, .i .i64] (T 42) (T 43)),wm 45 44,Ws 46 45 2 3,qm 47 45 1,jf 48 45 3 5,ql 49 45 48,jf 50 45 4 5,Ws 51 45 50 3,jf 52 45 7 5,Ws 53 45 52 2,W5 54 45 LP 46 47 49 51 53,wq 55 45 54,wm 4 55]
def c6M:Z9:=(QR cu (QR cr (QR cq (Q (QR cp (CR 21 cn)) (QR cm (Q (QR cj (CR 32 cg)) (QR cf (QR cd .ret))))))))
theorem jj:Zz prog HT=some (56,c6M,[.tmp 4]):=by kernel_rfl
@[simp]def b9:=[wx 2 0,wb 4 false]
@[simp]def bZ:=[yf 8 1 2,wl 9 8,wm 10 1,wi 11 22 9 10,ws 12 11 22,oo 5 (.alloc [zi,zi,zi,zi,zb,zi,zs,zi,zi,zi, .nil 3,zi,zi,zb,zi,zs,zb,zi,zs, .nil 9, .nil 5,zb]),wo 5 12 22]
@[simp]def bY:=[ws 13 2 3,yf 14 3 5,wl 15 14,yf 16 4 5,ws 17 16 3,Y3 18 OB 13 15 17,wm 6 18]
@[simp]def bX:VT:=
 V (ql 23 21 22)<|V (W5 32 21 Wz 24 25 27 29 31)<|V (qc 33 21 .add 32 1)<|V (qt 34 21 .neq 23 33)<|vq 35 21 34<|.done
@[simp]def bW:VT:=
 V (W5 32 21 Wz 24 25 27 29 31)<|V (ql 23 21 22)<|V (qc 33 21 .add 32 1)<|V (qt 34 21 .neq 23 33)<|vq 35 21 34<|.done
@[simp]def bV:VT:=
 ym 19 6<|vu 20 19<|ym 21 20<|V (jf 22 21 9 5)<|V (Ws 24 21 2 3)<|V (qm 25 21 1)<|V (jf 26 21 0 5)<|V (ql 27 21 26)<|V (jf 28 21 3 5)<|V (ql 29 21 28)<|V (jf 30 21 4 5)<|V (Ws 31 21 30 3)<|.alt (bX) (bW)
@[simp]def bU:=[wb 4 false]
@[simp]def bT:VT:=
 Yf 36 0 2<|yl 37 36<|Yf 38 3 5<|yl 39 38<|yi 40 1 37 39<|Ys 41 40 1<|Yf 42 10 5<|yl 43 42<|V2 44 HI 41 43<|ym 7 44<|.done
@[simp]def bS:VT:=
 Yf 45 10 5<|yl 46 45<|vn 47 46<|yc 48 .eql 47 0<|ym 49 48<|V (qm 50 49 7)<|V (qm 51 49 50)<|V (qf 52 51 10 5)<|V (Yl 53 51 52)<|V (og 54 51 true (.ia 3 (T 53) (K 0)))<|V (qs 55 51 54 3)<|V (qf 56 51 4 5)<|V (qs 57 51 56 3)<|V (og 58 51 true (.eqs false [.b, .i .i64, .s] (T 55) (T 57)))<|V (qp 59 49 51 58)<|vq 60 49 59<|ym 4 60<|.done
def c7M:Z9:=(QR b9 (QR bZ (QR bY (Q (Q (.any bV) (CR 35 bU)) (Q (.any bT) (Q (.any bS) .ret))))))
theorem jl:Zz prog HS=some (61,c7M,[.tmp 4]):=by kernel_rfl
@[simp]def bR:=[wx 2 0,wb 4 false]
@[simp]def bQ:=[yf 14 1 2,wl 15 14,wm 16 1,wi 17 22 15 16,ws 18 17 22,oo 5 (.alloc [zi,zi,zi,zi,zb,zi,zs,zi,zi,zi, .nil 3,zi,zi,zb,zi,zs,zb,zi,zs, .nil 9, .nil 5,zb]),wo 5 18 22]
@[simp]def bP:VT:=
 Yf 19 3 5<|yl 20 19<|yc 21 .lss 20 0<|ym 22 21<|V (jf 23 22 3 5)<|V (ql 24 22 23)<|V (jf 25 22 0 2)<|V (ql 26 22 25)<|V (Yn 27 22 26)<|V (qt 28 22 .geq 24 27)<|vq 29 22 28<|ym 30 29<|V (jf 31 30 0 2)<|V (ql 32 30 31)<|V (jf 33 30 3 5)<|V (ql 34 30 33)<|V (qi 35 30 1 32 34)<|V (Ws 36 30 35 1)<|V (jf 37 30 11 5)<|V (Ws 38 30 37 9)<|V (X2 39 30 HG 36 38)<|V (Yu 40 30 39)<|vq 41 30 40<|.done
@[simp]def bO:=[wb 4 false]
@[simp]def bN:=[wk 6 0]
@[simp]def bM:=[wm 42 6,yf 43 20 5,wl 44 43,wn 45 44,wt 46 .lss 42 45]
@[simp]def bL:=[yf 49 20 5,wl 50 49,wm 51 6,wi 52 5 50 51,ws 53 52 5,oo 7 (.alloc [zb,zi,zs,zi,zi]),wo 7 53 5]
@[simp]def bK:=[ws 54 2 3,yf 55 3 5,wl 56 55,yf 57 0 7,ws 58 57 3,Y3 59 OB 54 56 58,wm 8 59]
@[simp]def bJ:=[wm 60 8,wu 61 60,wm 62 61,Ws 63 62 2 3,qm 64 62 1,jf 65 62 3 5,ql 66 62 65,jf 67 62 0 7,Ws 68 62 67 3,jf 69 62 3 7,Ws 70 62 69 2,W5 71 62 LP 63 64 66 68 70,Yu 72 62 71,wq 73 62 72]
@[simp]def bI:=[wb 4 false]
@[simp]def za:VT:=
 ym 74 6<|yc 75 .gtr 74 0<|ym 76 75<|V (qf 77 76 20 5)<|V (Yl 78 76 77)<|V (Ym 79 76 6)<|V (Yc 80 76 .sub 79 1)<|V (Yi 81 76 5 78 80)<|V (qf 82 76 0 81)<|V (qs 83 76 82 3)<|V (qf 84 76 0 7)<|V (qs 85 76 84 3)<|V (U2 86 76 QC 83 85)<|V (Yc 87 76 .geq 86 0)<|yp 88 76 87<|.done
@[simp]def y9:=[wb 4 false]
@[simp]def y8:=[wm 47 6,wc 48 .add 47 1,wm 6 48]
def KU:Z9:=
 (Q (QR bM (CX 46 0)) (Q (.block 1 (QR bL (QR bK (Q (QR bJ (CR 73 bI)) (Q (.any za) (CR 88 y9)))))) (R y8)))
@[simp]def y7:=[wk 9 0]
@[simp]def y6:=[wm 89 9,wm 90 1,wt 91 .lss 89 90]
@[simp]def yZ:=[yf 94 1 2,wl 95 94,wm 96 9,wi 97 22 95 96,ws 98 97 22,oo 10 (.alloc [zi,zi,zi,zi,zb,zi,zs,zi,zi,zi, .nil 3,zi,zi,zb,zi,zs,zb,zi,zs, .nil 9, .nil 5,zb]),wo 10 98 22]
@[simp]def yY:=[yf 99 1 10,wl 100 99,wc 101 .neq 100 3,wm 102 101,jf 103 102 0 10,ql 104 102 103,jf 105 102 0 5,ql 106 102 105,qt 107 102 .neq 104 106,wq 108 102 107,wm 109 108,jf 110 109 3 10,ql 111 109 110,jf 112 109 3 5,ql 113 109 112,qt 114 109 .neq 111 113,wq 115 109 114]
@[simp]def bH:VT:=
 j5 126 Wz 118 119 121 123 125<|oc 127 (.build [zi,zi] [(0,1,(T 117)),(1,1,(T 126))])<|oc 11 (.alloc [zi,zi])<|V (wo 11 127 2)<|.done
@[simp]def bG:VT:=
 oc 11 (.alloc [zi,zi])<|j5 126 Wz 118 119 121 123 125<|oc 127 (.build [zi,zi] [(0,1,(T 117)),(1,1,(T 126))])<|V (wo 11 127 2)<|.done
@[simp]def bF:VT:=
 yl 117 116<|.alt (bH) (bG)
@[simp]def bE:VT:=
 j5 126 Wz 118 119 121 123 125<|yl 117 116<|oc 127 (.build [zi,zi] [(0,1,(T 117)),(1,1,(T 126))])<|oc 11 (.alloc [zi,zi])<|V (wo 11 127 2)<|.done
@[simp]def bC:VT:=
 yl 117 116<|j5 126 Wz 118 119 121 123 125<|oc 127 (.build [zi,zi] [(0,1,(T 117)),(1,1,(T 126))])<|V (wo 11 127 2)<|.done
@[simp]def bB:VT:=
 j5 126 Wz 118 119 121 123 125<|yl 117 116<|oc 127 (.build [zi,zi] [(0,1,(T 117)),(1,1,(T 126))])<|V (wo 11 127 2)<|.done
@[simp]def bA:VT:=
 oc 11 (.alloc [zi,zi])<|.alt (bC) (bB)
@[simp]def yX:VT:=
 Yf 116 0 5<|Ys 118 2 3<|ym 119 1<|Yf 120 0 5<|yl 121 120<|Yf 122 3 5<|yl 123 122<|Yf 124 4 10<|Ys 125 124 3<|.alt (bF) (.alt (bE) (bA))
@[simp]def yW:=[wb 12 false]
@[simp]def yV:=[wk 13 0]
@[simp]def yU:=[wm 128 13,yf 129 20 5,wl 130 129,wn 131 130,wt 132 .lss 128 131]
@[simp]def yT:VT:=
 ym 135 12<|ym 136 135<|V (jf 137 136 20 5)<|V (ql 138 136 137)<|V (qm 139 136 13)<|V (qi 140 136 5 138 139)<|V (jf 141 136 0 140)<|V (Ws 142 136 141 3)<|V (jf 143 136 4 10)<|V (Ws 144 136 143 3)<|V (og 145 136 false (.eqs false [.b, .i .i64, .s] (T 142) (T 144)))<|V (qm 146 136 145)<|V (qf 147 146 20 5)<|V (Yl 148 146 147)<|V (Ym 149 146 13)<|V (Yi 150 146 5 148 149)<|V (qf 151 146 3 150)<|V (qs 152 146 151 2)<|V (qs 153 146 11 2)<|V (og 154 146 true (.eqs false [.i .i64, .i .i64] (T 152) (T 153)))<|V (qp 155 136 146 154)<|vq 156 136 155<|ym 12 156<|.done
@[simp]def yS:=[wm 133 13,wc 134 .add 133 1,wm 13 134]
def KS:Z9:=
 (Q (QR yU (CX 132 4)) (Q (.block 5 (.any yT)) (R yS)))
@[simp]def yR:=[wm 157 12,wu 158 157]
@[simp]def yQ:=[wb 4 false]
@[simp]def yP:=[wm 92 9,wc 93 .add 92 1,wm 9 93]
def KT:Z9:=
 (Q (QR y6 (CX 91 2)) (Q (.block 3 (QR yZ (Q (QR yY (CT 115 (.exit 3) .skip)) (Q (.any yX) (QR yW (Q (QR yV (.block 4 (.loop KS))) (QR yR (CR 158 yQ)))))))) (R yP)))
@[simp]def yO:=[wb 4 true]
def c8M:Z9:=(QR bR (QR bQ (Q (Q (.any bP) (CR 41 bO)) (Q (QR bN (.block 0 (.loop KU))) (Q (QR y7 (.block 2 (.loop KT))) (QR yO .ret))))))
theorem ji:Zz prog HR=some (159,c8M,[.tmp 4]):=by kernel_rfl
@[simp]def bz:=[wk 4 0]
@[simp]def bx:=[wm 5 0,oo 6 (.peq false (T 5) (.const (.pointer none)))]
@[simp]def bw:=[wk 4 0]
@[simp]def bu:=[wm 7 0,wh 8 7,yf 9 0 8,wl 10 9,wm 11 1,oo 12 (.UT (false,[.i .i64],false) [zi] (T 10) (T 11) false),wm 4 12]
def a4d:Z9:=(QR bz (Q (QR bx (CR 6 bw)) (QR bu .ret)))
theorem ph:Zz prog HP=some (13,a4d,[.tmp 4]):=by kernel_rfl
@[simp]def bt:=[wx 2 0,wb 3 false]
@[simp]def bq:=[wl 4 1,ws 5 2 22,Y2 6 Ii 4 5,wm 7 6,Yl 8 7 1,qs 9 7 2 22,U2 10 7 HO 8 9,wp 11 7 10,wm 12 11,Yl 13 12 1,qs 14 12 2 22,U2 15 12 HN 13 14,wp 16 12 15,wm 17 16,Yl 18 17 1,qs 19 17 2 22,U2 20 17 Ih 18 19,wp 21 17 20,wm 3 21]
def a5d:Z9:=(QR bt (QR bq .ret))
theorem ot:Zz prog RW=some (22,a5d,[.tmp 3]):=by kernel_rfl
@[simp]def bp:=[wx 3 1,wb 4 false]
@[simp]def bn:=[yf 6 0 3,wl 7 6,wc 8 .lss 7 1,wm 9 8,jf 10 9 1 3,ql 11 9 10,qc 12 9 .lss 11 1,wq 13 9 12,wm 14 13,jf 15 14 1 3,ql 16 14 15,qc 17 14 .gtr 16 6,wq 18 14 17]
@[simp]def bk:=[wb 4 false]
@[simp]def bj:VT:=
 ym 19 0<|vh 20 19<|Yf 21 3 20<|yl 22 21<|Yf 23 0 3<|yl 24 23<|oc 25 (.UT (false,[.i .i64],false) [zi] (T 22) (T 24) false)<|ym 5 25<|.done
@[simp]def bh:=[yf 26 1 3,wl 27 26,wc 28 .eql 27 1]
@[simp]def bg:=[wm 29 5,wc 30 .neq 29 0,wm 31 30,jf 32 31 2 3,ql 33 31 32,qc 34 31 .lss 33 1,wq 35 31 34,wm 36 35,jf 37 36 2 3,ql 38 36 37,qc 39 36 .gtr 38 5,wq 40 36 39]
@[simp]def bd:=[wb 4 false]
@[simp]def bb:VT:=
 ym 41 0<|vh 42 41<|Yf 43 3 42<|yl 44 43<|Yf 45 0 3<|yl 46 45<|Yf 47 1 3<|yl 48 47<|.op (on (.YI (false,[.i .i64],false) (T 44) (T 46) (T 48)))<|.done
@[simp]def aZ:=[wb 4 true]
@[simp]def aY:=[wm 49 5,wc 50 .neq 49 1]
@[simp]def yN:=[wb 4 false]
@[simp]def yM:=[yf 51 1 3,wl 52 51,wc 53 .eql 52 5,wm 54 53,jf 55 54 1 3,ql 56 54 55,qc 57 54 .eql 56 6,wq 58 54 57]
@[simp]def yL:VT:=
 ym 59 0<|vh 60 59<|Yf 61 3 60<|yl 62 61<|Yf 63 0 3<|yl 64 63<|Yf 65 1 3<|yl 66 65<|.op (on (.YI (false,[.i .i64],false) (T 62) (T 64) (T 66)))<|.done
@[simp]def yK:=[wb 4 true]
def WV:Z9:=(QR bp (Q (QR bn (CR 18 bk)) (Q (.any bj) (Q (QR bh (CT 28 (Q (QR bg (CR 40 bd)) (Q (.any bb) (QR aZ .ret))) .skip)) (Q (QR aY (CR 50 yN)) (Q (QR yM (CT 58 (.any yL) .skip)) (QR yK .ret)))))))
theorem p9:Zz prog Ii=some (67,WV,[.tmp 4]):=by kernel_rfl
@[simp]def aX:=[wx 3 1,wb 4 false]
@[simp]def aW:=[yf 7 1 3,wl 8 7,wc 9 .neq 8 2]
@[simp]def aV:=[wb 4 true]
@[simp]def aU:=[yf 10 3 3,wl 11 10,yf 12 4 3,ws 13 12 3,oo 14 (.build [zi,zb,zi,zs] [(0,1,(T 11)),(1,3,(T 13))]),oo 5 (.alloc [zi,zb,zi,zs]),wo 5 14 4]
@[simp]def aT:VT:=
 ym 15 0<|vh 16 15<|Yf 17 4 16<|yl 18 17<|Yf 19 0 3<|yl 20 19<|Ys 21 5 4<|oc 22 (.build [zi,zi,zb,zi,zs] [(0,1,(T 20)),(1,4,(T 21))])<|oc 23 (.UT (true,[.i .i64, .i .i64, .b, .i .i64, .s],false) [zi] (T 18) (T 22) false)<|ym 6 23<|.done
@[simp]def aS:=[wm 24 6,wc 25 .gtr 24 0]
@[simp]def aR:=[wm 26 0,yf 27 3 3,wl 28 27,yf 29 4 3,ws 30 29 3,Y3 31 QB 26 28 30,wm 32 31,qf 33 32 7 3,qs 34 32 33 2,qf 35 32 0 3,Yl 36 32 35,Ym 37 32 6,og 38 32 true (.build [zi,zi] [(0,1,(T 36)),(1,1,(T 37))]),og 39 32 true (.eqs false [.i .i64, .i .i64] (T 34) (T 38)),wp 40 32 39,wm 4 40]
@[simp]def aQ:=[wm 41 0,yf 42 3 3,wl 43 42,yf 44 4 3,ws 45 44 3,Y3 46 QB 41 43 45,wm 47 46,qf 48 47 7 3,qs 49 47 48 2,og 50 47 true (.build [zi,zi] []),og 51 47 true (.eqs false [.i .i64, .i .i64] (T 49) (T 50)),Ym 52 47 51,qm 53 52 0,Ws 54 52 5 4,jf 55 52 7 3,Ws 56 52 55 2,U3 57 52 LM 53 54 56,yq 58 47 52 57,wp 59 47 58,wm 4 59]
def TX:Z9:=(QR aX (Q (QR aW (CR 9 aV)) (QR aU (Q (Q (.any aT) (QR aS (CR 25 aR))) (QR aQ .ret)))))
theorem oU:Zz prog HO=some (60,TX,[.tmp 4]):=by kernel_rfl
@[simp]def aP:=[wx 3 1,wb 4 false]
@[simp]def aO:=[yf 11 1 3,wl 12 11,wc 13 .neq 12 4]
@[simp]def aN:=[wb 4 true]
@[simp]def aM:VT:=
 Yf 14 3 3<|yl 15 14<|yc 16 .lss 15 0<|ym 17 16<|V (jf 18 17 3 3)<|V (ql 19 17 18)<|V (qm 20 17 0)<|V (Yh 21 17 20)<|V (jf 22 17 0 21)<|V (jf 23 17 0 22)<|V (ql 24 17 23)<|V (Yn 25 17 24)<|V (qt 26 17 .geq 19 25)<|vq 27 17 26<|ym 28 27<|V (qm 29 28 0)<|V (Yh 30 28 29)<|V (jf 31 28 0 30)<|V (jf 32 28 0 31)<|V (ql 33 28 32)<|V (jf 34 28 3 3)<|V (ql 35 28 34)<|V (qi 36 28 1 33 35)<|V (Ws 37 28 36 1)<|V (jf 38 28 11 3)<|V (Ws 39 28 38 9)<|V (X2 40 28 HE 37 39)<|V (qc 41 28 .neq 40 0)<|vq 42 28 41<|.done
@[simp]def aL:=[wb 4 false]
@[simp]def aK:=[oo 43 (.XD (true,[.i .i64, .b, .i .i64, .s],true)),wm 5 43]
@[simp]def aJ:=[yf 44 20 3,wl 45 44,wn 46 45,wk 47 0]
@[simp]def aI:=[wt 48 .lss 47 46]
@[simp]def aH:=[wm 49 47,wi 50 5 45 47,ws 51 50 5,oo 7 (.alloc [zb,zi,zs,zi,zi]),wm 6 49,wo 7 51 5]
@[simp]def aG:=[yf 52 3 3,wl 53 52,yf 54 0 7,ws 55 54 3,oo 56 (.build [zi,zb,zi,zs] [(0,1,(T 53)),(1,3,(T 55))]),oo 8 (.alloc [zi,zb,zi,zs]),wo 8 56 4]
@[simp]def yJ:VT:=
 ym 57 0<|Yf 58 3 3<|yl 59 58<|Yf 60 0 7<|Ys 61 60 3<|W3 62 QB 57 59 61<|vu 63 62<|ym 64 63<|V (qm 65 64 0)<|V (Ws 66 64 8 4)<|V (jf 67 64 3 7)<|V (Ws 68 64 67 2)<|V (U3 69 64 LM 65 66 68)<|V (Yu 70 64 69)<|vq 71 64 70<|ym 72 71<|V (qm 73 72 6)<|V (qc 74 72 .gtr 73 0)<|V (qm 75 72 74)<|V (qf 76 75 20 3)<|V (Yl 77 75 76)<|V (Ym 78 75 6)<|V (Yc 79 75 .sub 78 1)<|V (Yi 80 75 5 77 79)<|V (qf 81 75 0 80)<|V (qs 82 75 81 3)<|V (qf 83 75 0 7)<|V (qs 84 75 83 3)<|V (U2 85 75 QF 82 84)<|V (Yc 86 75 .geq 85 0)<|V (qp 87 72 75 86)<|vq 88 72 87<|.done
@[simp]def yI:=[wb 4 false]
@[simp]def yH:=[wm 89 5,ws 90 8 4,yf 91 3 7,ws 92 91 2,on (.YI (true,[.i .i64, .b, .i .i64, .s],true) (T 89) (T 90) (T 92))]
@[simp]def yG:=[wc 93 .add 47 1,wm 47 93]
def Li:Z9:=
 (QR aI (Q (CX 48 0) (Q (.block 1 (QR aH (QR aG (Q (Q (.any yJ) (CR 88 yI)) (R yH))))) (R yG))))
@[simp]def yF:VT:=
 ym 94 0<|vh 95 94<|Yf 96 5 95<|yl 97 96<|Yf 98 0 3<|yl 99 98<|oc 100 (.UT (false,[.i .i64],false) [.nil 4] (T 97) (T 99) false)<|vn 101 100<|vk 102 0<|.done
@[simp]def yE:=[wt 103 .lss 102 101]
@[simp]def yD:=[wi 104 4 100 102,ws 105 104 4,oo 10 (.alloc [zi,zb,zi,zs]),wo 10 105 4]
@[simp]def yC:VT:=
 Yf 106 0 10<|yl 107 106<|Yf 108 3 3<|yl 109 108<|vt 110 .eql 107 109<|ym 111 110<|V (Ym 112 111 5)<|V (qs 113 111 10 4)<|V (og 114 111 true (.UT (true,[.i .i64, .b, .i .i64, .s],true) [zi,zi] (T 112) (T 113) false))<|V (qf 115 111 0 3)<|V (Yl 116 111 115)<|V (Ym 117 111 0)<|V (yh 118 111 117)<|V (qf 119 111 4 118)<|V (Yl 120 111 119)<|V (qf 121 111 0 3)<|V (Yl 122 111 121)<|V (qs 123 111 10 4)<|V (og 124 111 true (.build [zi,zi,zb,zi,zs] [(0,1,(T 122)),(1,4,(T 123))]))<|V (og 125 111 true (.UT (true,[.i .i64, .i .i64, .b, .i .i64, .s],false) [zi] (T 120) (T 124) false))<|V (og 126 111 true (.build [zi,zi] [(0,1,(T 116)),(1,1,(T 125))]))<|V (og 127 111 true (.eqs true [.i .i64, .i .i64] (T 114) (T 126)))<|yp 128 111 127<|.done
@[simp]def yB:=[wb 4 false]
@[simp]def yA:=[wc 129 .add 102 1,wm 102 129]
def P5:Z9:=
 (QR yE (Q (CX 103 2) (Q (.block 3 (QR yD (Q (.any yC) (CR 128 yB)))) (R yA))))
@[simp]def yz:=[wb 4 true]
def TW:Z9:=(QR aP (Q (QR aO (CR 13 aN)) (Q (Q (.any aM) (CR 42 aL)) (QR aK (Q (QR aJ (.block 0 (.loop Li))) (Q (Q (.any yF) (.block 2 (.loop P5))) (QR yz .ret)))))))
theorem oT:Zz prog HN=some (130,TW,[.tmp 4]):=by kernel_rfl
@[simp]def aF:=[wx 3 1,wb 4 false]
@[simp]def aE:=[yf 7 1 3,wl 8 7,wc 9 .neq 8 3]
@[simp]def aD:=[wb 4 true]
@[simp]def aC:=[yf 10 3 3,wl 11 10,yf 12 4 3,ws 13 12 3,oo 14 (.build [zi,zb,zi,zs] [(0,1,(T 11)),(1,3,(T 13))]),oo 5 (.alloc [zi,zb,zi,zs]),wo 5 14 4]
@[simp]def aB:=[yf 15 0 3,wl 16 15,ws 17 5 4,oo 18 (.build [zi,zi,zb,zi,zs] [(0,1,(T 16)),(1,4,(T 17))]),oo 6 (.alloc [zi,zi,zb,zi,zs]),wo 6 18 5]
@[simp]def aA:VT:=
 ym 19 0<|Yf 20 3 3<|yl 21 20<|Yf 22 4 3<|Ys 23 22 3<|W3 24 QB 19 21 23<|vu 25 24<|ym 26 25<|V (jf 27 26 9 3)<|V (ql 28 26 27)<|V (qm 29 26 0)<|V (Yh 30 26 29)<|V (jf 31 26 4 30)<|V (ql 32 26 31)<|V (Ws 33 26 6 5)<|V (og 34 26 false (.UT (true,[.i .i64, .i .i64, .b, .i .i64, .s],false) [zi] (T 32) (T 33) false))<|V (qc 35 26 .add 34 1)<|V (qt 36 26 .neq 28 35)<|vq 37 26 36<|.done
@[simp]def az:=[wb 4 false]
@[simp]def aw:=[yf 38 9 3,wl 39 38,wc 40 .eql 39 1]
@[simp]def au:VT:=
 yl 46 45<|oc 55 (.lit 4 1 [(0,(T 54))])<|oc 56 (.app 4 40 (T 53) (T 55))<|.op (on (.YI (false,[.i .i64],false) (T 44) (T 46) (T 56)))<|.done
@[simp]def F7:VT:=
 yl 46 45<|oc 56 (.app 4 40 (T 53) (T 55))<|.op (on (.YI (false,[.i .i64],false) (T 44) (T 46) (T 56)))<|.done
@[simp]def F6:VT:=
 oc 56 (.app 4 40 (T 53) (T 55))<|yl 46 45<|.op (on (.YI (false,[.i .i64],false) (T 44) (T 46) (T 56)))<|.done
@[simp]def aq:VT:=
 oc 55 (.lit 4 1 [(0,(T 54))])<|.alt (F7) (F6)
@[simp]def ao:VT:=
 yl 44 43<|.alt (au) (aq)
@[simp]def ak:VT:=
 yl 44 43<|oc 55 (.lit 4 1 [(0,(T 54))])<|oc 56 (.app 4 40 (T 53) (T 55))<|.op (on (.YI (false,[.i .i64],false) (T 44) (T 46) (T 56)))<|.done
@[simp]def F5:VT:=
 yl 44 43<|oc 56 (.app 4 40 (T 53) (T 55))<|.op (on (.YI (false,[.i .i64],false) (T 44) (T 46) (T 56)))<|.done
@[simp]def F4:VT:=
 oc 56 (.app 4 40 (T 53) (T 55))<|yl 44 43<|.op (on (.YI (false,[.i .i64],false) (T 44) (T 46) (T 56)))<|.done
@[simp]def aj:VT:=
 oc 55 (.lit 4 1 [(0,(T 54))])<|.alt (F5) (F4)
@[simp]def ah:VT:=
 yl 46 45<|.alt (ak) (aj)
@[simp]def yy:VT:=
 yl 44 43<|.alt (F7) (F6)
@[simp]def yx:VT:=
 yl 46 45<|.alt (F5) (F4)
@[simp]def yw:VT:=
 oc 56 (.app 4 40 (T 53) (T 55))<|yl 44 43<|yl 46 45<|.op (on (.YI (false,[.i .i64],false) (T 44) (T 46) (T 56)))<|.done
@[simp]def yv:VT:=
 oc 55 (.lit 4 1 [(0,(T 54))])<|.alt (yy) (.alt (yx) (yw))
@[simp]def ae:VT:=
 ym 41 0<|vh 42 41<|Yf 43 5 42<|Yf 45 0 3<|ym 47 0<|vh 48 47<|Yf 49 5 48<|yl 50 49<|Yf 51 0 3<|yl 52 51<|oc 53 (.UT (false,[.i .i64],false) [.nil 4] (T 50) (T 52) false)<|Ys 54 5 4<|.alt (ao) (.alt (ah) (yv))
@[simp]def a5a:VT:=
 ym 57 0<|vh 58 57<|Yf 59 4 58<|yl 60 59<|Ys 61 6 5<|Yf 62 9 3<|yl 63 62<|.op (on (.YI (true,[.i .i64, .i .i64, .b, .i .i64, .s],false) (T 60) (T 61) (T 63)))<|.done
@[simp]def yr:VT:=
 Yf 64 10 3<|yl 65 64<|vn 66 65<|yc 67 .eql 66 0<|ym 68 67<|V (qm 69 68 0)<|V (Yh 70 68 69)<|V (jf 71 68 0 70)<|V (jf 72 68 0 71)<|V (ql 73 68 72)<|V (jf 74 68 3 3)<|V (ql 75 68 74)<|V (qi 76 68 1 73 75)<|V (Ws 77 68 76 1)<|V (jf 78 68 10 3)<|V (ql 79 68 78)<|V (X2 80 68 HD 77 79)<|V (qm 81 68 80)<|V (qf 82 81 10 3)<|V (Yl 83 81 82)<|V (og 84 81 true (.ia 3 (T 83) (K 0)))<|V (qs 85 81 84 3)<|V (qf 86 81 4 3)<|V (qs 87 81 86 3)<|V (og 88 81 true (.eqs false [.b, .i .i64, .s] (T 85) (T 87)))<|V (qp 89 68 81 88)<|vq 90 68 89<|ym 4 90<|.done
def TA:Z9:=(QR aF (Q (QR aE (CR 9 aD)) (QR aC (QR aB (Q (Q (.any aA) (CR 37 az)) (Q (QR aw (CT 40 (.any ae) .skip)) (Q (.any a5a) (Q (.any yr) .ret))))))))
theorem p8:Zz prog Ih=some (91,TA,[.tmp 4]):=by kernel_rfl
@[simp]def a7a:=[wb 2 false]
@[simp]def a0b:=[oo 15 (.XD (true,[.i .i64, .i .i64, .b, .i .i64, .s],false)),wm 3 15]
@[simp]def a1b:=[wm 16 0,wh 17 16,yf 18 5 17,wl 19 18,oo 20 (.QY (false,[.i .i64],false) (T 19))]
@[simp]def a2b:=[oo 21 (.nxt (T 20)),we 22 0 21]
@[simp]def a3b:=[oo 23 (.S7 (T 20)),we 24 0 23,we 25 1 23,wm 4 24,wm 5 25]
@[simp]def a1c:=[wm 26 0,wh 27 26,yf 28 3 27,wl 29 28,wm 30 4,oo 31 (.UT (false,[.i .i64],false) [zi] (T 29) (T 30) false),wc 32 .eql 31 5]
@[simp]def a2c:=[wm 33 5,wn 34 33,wk 35 0]
@[simp]def a0d:=[wt 36 .lss 35 34]
@[simp]def a1d:=[wi 37 4 33 35,ws 38 37 4,oo 7 (.alloc [zi,zb,zi,zs]),wo 7 38 4]
@[simp]def a2d:=[wm 39 3,wm 40 4,ws 41 7 4,oo 42 (.build [zi,zi,zb,zi,zs] [(0,1,(T 40)),(1,4,(T 41))]),on (.YI (true,[.i .i64, .i .i64, .b, .i .i64, .s],false) (T 39) (T 42) (K 1))]
@[simp]def yo:=[wc 43 .add 35 1,wm 35 43]
def Kj:Z9:=
 (QR a0d (Q (CX 36 2) (Q (.block 3 (QR a1d (R a2d))) (R yo))))
def Ki:Z9:=
 (QR a2b (Q (CX 22 0) (.block 1 (QR a3b (QR a1c (CT 32 (QR a2c (.block 2 (.loop Kj))) .skip))))))
@[simp]def yk:=[oo 44 (.XD (true,[.i .i64, .b, .i .i64, .s],false)),wm 8 44]
@[simp]def yj:=[wm 45 0,wh 46 45,yf 47 0 46,yf 48 2 47,wl 49 48,wn 50 49,wk 51 0]
@[simp]def yg:=[wt 52 .lss 51 50]
@[simp]def ye:=[wi 53 5 49 51,ws 54 53 5,oo 10 (.alloc [zi,zb,zi,zs, .nil 1]),wo 10 54 5]
@[simp]def yd:=[yf 55 0 10,wl 56 55,yf 57 1 10,ws 58 57 3,oo 59 (.build [zi,zb,zi,zs] [(0,1,(T 56)),(1,3,(T 58))]),oo 11 (.alloc [zi,zb,zi,zs]),wo 11 59 4]
@[simp]def a3d:VT:=
 oc 62 (.UT (true,[.i .i64, .b, .i .i64, .s],false) [zi] (T 60) (T 61) false)<|yc 63 .add 62 1<|oc 64 (.JN (true,[.i .i64, .b, .i .i64, .s],false) [zi] (T 60) (T 61))<|ve 65 1 64<|.op (on (.est (T 60) (T 65) (T 63)))<|.done
@[simp]def a6d:VT:=
 oc 64 (.JN (true,[.i .i64, .b, .i .i64, .s],false) [zi] (T 60) (T 61))<|oc 62 (.UT (true,[.i .i64, .b, .i .i64, .s],false) [zi] (T 60) (T 61) false)<|yc 63 .add 62 1<|ve 65 1 64<|.op (on (.est (T 60) (T 65) (T 63)))<|.done
@[simp]def yb:VT:=
 ym 60 8<|Ys 61 11 4<|.alt (a3d) (a6d)
@[simp]def ya:=[wm 66 8,ws 67 11 4,oo 68 (.UT (true,[.i .i64, .b, .i .i64, .s],false) [zi] (T 66) (T 67) false),wc 69 .gtr 68 1,wm 70 69,jf 71 70 4 10,ql 72 70 71,Yn 73 70 72,qc 74 70 .eql 73 0,wq 75 70 74]
@[simp]def x9:=[wb 2 false]
@[simp]def x8:=[yf 76 4 10,wl 77 76,wn 78 77,wk 79 0]
@[simp]def x7:=[wt 80 .lss 79 78]
@[simp]def x6:=[wi 81 1 77 79,wl 82 81,wm 13 82]
@[simp]def xZ:=[wm 83 13,ws 84 11 4,oo 85 (.build [zi,zi,zb,zi,zs] [(0,1,(T 83)),(1,4,(T 84))]),oo 14 (.alloc [zi,zi,zb,zi,zs]),wo 14 85 5]
@[simp]def xY:=[wm 86 3,ws 87 14 5,oo 88 (.UT (true,[.i .i64, .i .i64, .b, .i .i64, .s],false) [zi] (T 86) (T 87) false),wc 89 .eql 88 0]
@[simp]def xX:=[wb 2 false]
@[simp]def xW:=[wm 90 3,ws 91 14 5,on (.Hq (true,[.i .i64, .i .i64, .b, .i .i64, .s],false) (T 90) (T 91))]
@[simp]def xV:=[wc 92 .add 79 1,wm 79 92]
def Kh:Z9:=
 (QR x7 (Q (CX 80 6) (Q (.block 7 (QR x6 (QR xZ (Q (QR xY (CR 89 xX)) (R xW))))) (R xV))))
@[simp]def xU:=[wc 93 .add 51 1,wm 51 93]
def Kg:Z9:=
 (QR yg (Q (CX 52 4) (Q (.block 5 (QR ye (QR yd (Q (.any yb) (Q (QR ya (CR 75 x9)) (QR x8 (.block 6 (.loop Kh)))))))) (R xU))))
@[simp]def xT:=[wm 94 3,oo 95 (.Ho (T 94)),wc 96 .eql 95 0,wm 2 96]
def Qq:Z9:=(QR a7a (QR a0b (Q (QR a1b (.block 0 (.loop Ki))) (QR yk (Q (QR yj (.block 4 (.loop Kg))) (QR xT .ret))))))
theorem a7d:Zz prog QE=some (97,Qq,[.tmp 2]):=by kernel_rfl
@[simp]def a8d:=[wx 1 0,wk 2 0]
@[simp]def a9d:=[yf 3 0 1,wl 4 3,wn 5 4,wc 6 .lss 5 1,wm 7 6,jf 8 7 0 1,ql 9 7 8,Yn 10 7 9,qc 11 7 .gtr 10 4,wq 12 7 11]
@[simp]def a0e:=[wk 2 1]
@[simp]def a1e:=[wk 2 0]
def a2e:Z9:=(QR a8d (Q (QR a9d (CR 12 a0e)) (QR a1e .ret)))
theorem a5e:Zz prog OD=some (13,a2e,[.tmp 2]):=by kernel_rfl
@[simp]def a6e:=[wz 2 3]
@[simp]def a0f:=[wm 3 0,oo 4 (.Qg false (T 3))]
@[simp]def a1f:=[wz 2 3]
@[simp]def a2f:=[oo 5 (.lit 3 0 []),wm 6 0,oo 7 (.app 3 32 (T 5) (T 6)),wm 2 7]
def a3e:Z9:=(QR a6e (Q (QR a0f (CR 4 a1f)) (QR a2f .ret)))
theorem pI:Zz prog HM=some (8,a3e,[.tmp 2]):=by kernel_rfl
@[simp]def a6f:=[wk 4 0]
@[simp]def a7f:=[wm 6 0,wn 7 6,wk 8 0]
@[simp]def a0g:=[wt 9 .lss 8 7]
@[simp]def a1g:=[wm 10 8,wm 5 10]
@[simp]def a5g:=[wm 11 1,wm 12 0,wm 13 5,wi 14 2 12 13,ws 15 14 2,oo 16 (.Yz (T 11) [(T 15)])]
@[simp]def a8g:=[wm 17 5,wm 4 17]
@[simp]def a9g:=[wc 18 .add 8 1,wm 8 18]
def G4:Z9:=
 (QR a0g (Q (CX 9 0) (Q (.block 1 (QR a1g (QR a5g (CR 16 a8g)))) (R a9g))))
@[simp]def a0h:=[wk 4 (-1)]
def a4e:Z9:=(QR a6f (Q (QR a7f (.block 0 (.loop G4))) (QR a0h .ret)))
theorem pb:Zz prog HL=some (19,a4e,[.tmp 4]):=by kernel_rfl
@[simp]def a3h:=[wx 5 2,wz 6 2]
@[simp]def a5h:VT:=
 ym 10 0<|vh 11 10<|Yf 12 4 11<|yl 13 12<|ym 14 1<|Ys 15 5 3<|oc 16 (.build [zi,zb,zi,zs] [(0,1,(T 14)),(1,3,(T 15))])<|oc 17 (.UT (true,[.i .i64, .b, .i .i64, .s],false) [.nil 2] (T 13) (T 16) true)<|ym 9 17<|ve 18 0 9<|ve 19 1 9<|ym 7 18<|ym 8 19<|.done
@[simp]def a6h:=[wm 20 8,wu 21 20]
@[simp]def a7h:=[oo 22 (.build [zi,zi] []),oo 23 (.lit 2 1 [(0,(T 22))]),wm 6 23]
@[simp]def a0i:=[wm 24 7,wm 6 24]
def Qw:Z9:=(QR a3h (Q (.any a5h) (Q (QR a6h (CR 21 a7h)) (QR a0i .ret))))
theorem pe:Zz prog OC=some (25,Qw,[.tmp 6]):=by kernel_rfl
@[simp]def a1i:=[wx 2 0,wb 3 false]
@[simp]def a2i:=[yf 4 0 2,wl 5 4,yf 6 0 1,wl 7 6,wt 8 .eql 5 7,wm 3 8]
def a7e:Z9:=(QR a1i (QR a2i .ret))
theorem pc:Zz prog QD=some (9,a7e,[.tmp 3]):=by kernel_rfl
@[simp]def a4i:=[wx 5 0,wb 6 false]
@[simp]def a5i:=[wl 10 1,wl 11 2,ws 12 3 3,ws 13 5 2,Y4 14 OL 10 11 12 13,wm 9 14,we 15 0 9,we 16 1 9,wm 7 15,wm 8 16]
@[simp]def a6i:=[wm 17 7,wn 18 17,wc 19 .gtr 18 0,wm 20 19,qs 21 20 4 9,Ym 22 20 7,U2 23 20 LR 21 22,wp 24 20 23,wm 6 24]
def a8e:Z9:=(QR a4i (QR a5i (QR a6i .ret)))
theorem oW:Zz prog LU=some (25,a8e,[.tmp 6]):=by kernel_rfl
@[simp]def a7i:=[wx 2 0,wx 3 1,wb 4 false]
@[simp]def a8i:=[oo 6 (.V6 S9 [] [(T 3)]),oo 5 (.alloc [.iv (.v .nilFunc)]),wo 5 6 1]
@[simp]def a2j:=[yf 7 0 2,wl 8 7]
@[simp]def a3j:=[wc 10 .eql 8 1,wm 9 10]
@[simp]def a4j:=[wb 4 true]
@[simp]def a5j:=[wc 12 .eql 8 3,wm 11 12]
@[simp]def a6j:=[wc 13 .eql 8 4,wm 11 13]
@[simp]def a8j:=[wc 14 .eql 8 5,wm 11 14]
@[simp]def a9j:=[wc 15 .eql 8 6,wm 11 15]
@[simp]def a1k:=[wc 16 .eql 8 7,wm 11 16]
@[simp]def xS:=[wc 17 .eql 8 8,wm 11 17]
@[simp]def xR:=[wc 18 .eql 8 9,wm 11 18]
@[simp]def xQ:=[ws 19 2 9,wl 20 3,Y2 21 HC 19 20,wm 4 21]
@[simp]def xP:=[wc 23 .eql 8 10,wm 22 23]
@[simp]def xO:VT:=
 Yf 24 8 2<|yl 25 24<|vn 26 25<|yc 27 .eql 26 0<|ym 28 27<|V (ql 29 28 5)<|V (jf 30 28 8 2)<|V (ql 31 28 30)<|V (og 32 28 false (.ia 9 (T 31) (K 0)))<|V (Ws 33 28 32 9)<|V (og 34 28 false (.Yz (T 29) [(T 33)]))<|V (Yu 35 28 34)<|vq 36 28 35<|ym 4 36<|.done
@[simp]def xN:=[wc 38 .eql 8 11,wm 37 38]
@[simp]def xM:=[yf 39 8 2,wl 40 39,oo 41 (.V6 S8 [] [(T 5)]),Y2 42 QA 40 41,wu 43 42,wm 4 43]
@[simp]def xL:=[wc 45 .eql 8 12,wm 44 45]
@[simp]def xK:=[yf 46 8 2,wl 47 46,wl 48 5,Y2 49 QA 47 48,wm 4 49]
@[simp]def xJ:=[wb 4 false]
def a9e:Z9:=(QR a7i (QR a8i (Q (QR a2j (.block 0 (QR a3j (CT 9 (QR a4j .ret) (Q (QR a5j (CT 11 .skip (QR a6j (CT 11 .skip (QR a8j (CT 11 .skip (QR a9j (CT 11 .skip (QR a1k (CT 11 .skip (QR xS (CT 11 .skip (R xR))))))))))))) (CT 11 (QR xQ .ret) (QR xP (CT 22 (Q (.any xO) .ret) (QR xN (CT 37 (QR xM .ret) (QR xL (CR 44 xK)))))))))))) (QR xJ .ret))))
theorem a2k:Zz prog LR=some (50,a9e,[.tmp 4]):=by kernel_rfl
@[simp]def a3k:=[wk 4 0]
@[simp]def a4k:=[wm 7 0,Y1 8 LL 7,wm 5 8]
@[simp]def a5k:=[wm 9 1,Y1 10 LL 9,wm 6 10]
@[simp]def a6k:=[wm 11 5]
@[simp]def a3l:=[wm 12 6]
@[simp]def a8l:=[wk 4 0]
@[simp]def a9l:=[wk 4 (-1)]
@[simp]def a0m:=[wm 13 6]
@[simp]def a1m:=[wk 4 1]
@[simp]def a2m:=[wm 14 0,wm 15 1,wt 16 .lss 14 15]
@[simp]def xI:=[wk 4 (-1)]
@[simp]def xH:=[wm 17 0,wm 18 1,wt 19 .gtr 17 18]
@[simp]def xG:=[wk 4 1]
@[simp]def xF:=[wk 4 0]
def RK:Z9:=(QR a3k (QR a4k (QR a5k (Q (QR a6k (CT 11 (Q (QR a3l (CR 12 a8l)) (QR a9l .ret)) .skip)) (Q (QR a0m (CR 13 a1m)) (Q (QR a2m (CR 16 xI)) (Q (QR xH (CR 19 xG)) (QR xF .ret))))))))
theorem pB:Zz prog HK=some (20,RK,[.tmp 4]):=by kernel_rfl
@[simp]def a3m:=[wk 4 0]
@[simp]def a6m:=[wm 7 0,Y1 8 LK 7,wm 5 8]
@[simp]def a7m:=[wm 9 1,Y1 10 LK 9,wm 6 10]
@[simp]def a8m:=[wm 11 5]
@[simp]def a9m:=[wm 12 6]
@[simp]def a0n:=[wk 4 0]
@[simp]def a3n:=[wk 4 (-1)]
@[simp]def a4n:=[wm 13 6]
@[simp]def a1o:=[wk 4 1]
@[simp]def a2o:=[wm 14 0,wm 15 1,wt 16 .lss 14 15]
@[simp]def xE:=[wk 4 (-1)]
@[simp]def xD:=[wm 17 0,wm 18 1,wt 19 .gtr 17 18]
@[simp]def xC:=[wk 4 1]
@[simp]def xB:=[wk 4 0]
def Qy:Z9:=(QR a3m (QR a6m (QR a7m (Q (QR a8m (CT 11 (Q (QR a9m (CR 12 a0n)) (QR a3n .ret)) .skip)) (Q (QR a4n (CR 13 a1o)) (Q (QR a2o (CR 16 xE)) (Q (QR xD (CR 19 xC)) (QR xB .ret))))))))
theorem pA:Zz prog HJ=some (20,Qy,[.tmp 4]):=by kernel_rfl
@[simp]def a7p:=[wx 2 0,wx 3 1,wk 4 0]
@[simp]def a9p:=[yf 6 0 2,wl 7 6,yf 8 0 3,wl 9 8,oo 10 (.beq true (T 7) (T 9))]
@[simp]def a0q:=[yf 11 0 3,wl 12 11]
@[simp]def a1q:=[wk 4 (-1)]
@[simp]def a3q:=[wk 4 1]
@[simp]def a5q:=[yf 13 0 2,wl 14 13,wu 15 14]
@[simp]def a6q:=[yf 16 1 2,wl 17 16,yf 18 1 3,wl 19 18,wt 20 .lss 17 19]
@[simp]def a8q:=[wk 4 (-1)]
@[simp]def a9q:=[yf 21 1 2,wl 22 21,yf 23 1 3,wl 24 23,wt 25 .gtr 22 24]
@[simp]def a0r:=[wk 4 1]
@[simp]def xA:=[wk 4 0]
@[simp]def xy:=[wk 5 0]
@[simp]def xx:=[wm 26 5,yf 27 2 2,wl 28 27,oo 29 (.lens (T 28)),wt 30 .lss 26 29,wm 31 30,Ym 32 31 5,qf 33 31 2 3,Yl 34 31 33,og 35 31 true (.lens (T 34)),Yt 36 31 .lss 32 35,wp 37 31 36]
@[simp]def xw:VT:=
 Yf 40 2 2<|yl 41 40<|ym 42 5<|oc 43 (.is (T 41) (T 42))<|Yf 44 2 3<|yl 45 44<|ym 46 5<|oc 47 (.is (T 45) (T 46))<|vt 48 .lss 43 47<|.done
@[simp]def xv:=[wk 4 (-1)]
@[simp]def xu:VT:=
 Yf 49 2 2<|yl 50 49<|ym 51 5<|oc 52 (.is (T 50) (T 51))<|Yf 53 2 3<|yl 54 53<|ym 55 5<|oc 56 (.is (T 54) (T 55))<|vt 57 .gtr 52 56<|.done
@[simp]def xr:=[wk 4 1]
@[simp]def xq:=[wm 38 5,wc 39 .add 38 1,wm 5 39]
def Lw:Z9:=
 (Q (QR xx (CX 37 0)) (Q (.block 1 (Q (Q (.any xw) (CR 48 xv)) (Q (.any xu) (CR 57 xr)))) (R xq)))
@[simp]def xp:=[yf 58 2 2,wl 59 58,oo 60 (.lens (T 59)),yf 61 2 3,wl 62 61,oo 63 (.lens (T 62)),wt 64 .lss 60 63]
@[simp]def xo:=[wk 4 (-1)]
@[simp]def xn:=[yf 65 2 2,wl 66 65,oo 67 (.lens (T 66)),yf 68 2 3,wl 69 68,oo 70 (.lens (T 69)),wt 71 .gtr 67 70]
@[simp]def xl:=[wk 4 1]
@[simp]def xk:=[wk 4 0]
def a3f:Z9:=(QR a7p (Q (QR a9p (CT 10 (Q (QR a0q (CR 12 a1q)) (QR a3q .ret)) .skip)) (Q (QR a5q (CT 15 (Q (QR a6q (CR 20 a8q)) (Q (QR a9q (CR 25 a0r)) (QR xA .ret))) .skip)) (Q (QR xy (.block 0 (.loop Lw))) (Q (QR xp (CR 64 xo)) (Q (QR xn (CR 71 xl)) (QR xk .ret)))))))
theorem py:Zz prog QC=some (72,a3f,[.tmp 4]):=by kernel_rfl
@[simp]def a1r:=[wx 4 0,wx 6 2,wx 7 3,wz 8 3,wb 9 false]
@[simp]def a2r:=[oo 13 (.build [zi,zi] []),oo 10 (.alloc [zi,zi]),wo 10 13 2]
@[simp]def a3r:=[ws 14 7 2,ws 15 10 2,oo 16 (.eqs false [.i .i64, .i .i64] (T 14) (T 15))]
@[simp]def a4r:=[wz 8 3,wb 9 true]
@[simp]def a5r:=[wk 11 0]
@[simp]def a6r:=[wm 17 11,yf 18 1 4,wl 19 18,wn 20 19,wt 21 .lss 17 20]
@[simp]def a7r:=[yf 24 1 4,wl 25 24,wm 26 11,wi 27 22 25 26,ws 28 27 22,oo 12 (.alloc [zi,zi,zi,zi,zb,zi,zs,zi,zi,zi, .nil 3,zi,zi,zb,zi,zs,zb,zi,zs, .nil 9, .nil 5,zb]),wo 12 28 22]
@[simp]def a8r:=[yf 29 1 12,wl 30 29,wc 31 .eql 30 3,wm 32 31,qf 33 32 0 12,Yl 34 32 33,qf 35 32 0 7,Yl 36 32 35,Yt 37 32 .eql 34 36,wp 38 32 37,wm 39 38,qf 40 39 9 12,Yl 41 39 40,qf 42 39 1 7,Yl 43 39 42,Yt 44 39 .eql 41 43,wp 45 39 44,wm 46 45,qf 47 46 3 12,Yl 48 46 47,Ym 49 46 1,Yt 50 46 .eql 48 49,wp 51 46 50,wm 52 51,qf 53 52 4 12,qs 54 52 53 3,qs 55 52 6 3,og 56 52 true (.eqs false [.b, .i .i64, .s] (T 54) (T 55)),wp 57 52 56]
@[simp]def a9r:=[yf 58 10 12,wl 59 58,wm 8 59,wb 9 true]
@[simp]def a0s:=[wm 22 11,wc 23 .add 22 1,wm 11 23]
def Ww:Z9:=
 (Q (QR a6r (CX 21 0)) (Q (.block 1 (QR a7r (QR a8r (CR 57 a9r)))) (R a0s)))
@[simp]def xj:=[wz 8 3,wb 9 false]
def a4f:Z9:=(QR a1r (QR a2r (Q (QR a3r (CR 16 a4r)) (Q (QR a5r (.block 0 (.loop Ww))) (QR xj .ret)))))
theorem oP:Zz prog LQ=some (60,a4f,[.tmp 8, .tmp 9]):=by kernel_rfl
@[simp]def a1s:=[wx 5 0,wx 7 2,wx 8 3,wx 9 4,wb 10 false]
@[simp]def a2s:=[ws 15 5 3,wm 16 1,ws 17 7 3,ws 18 8 2,Y4 19 LQ 15 16 17 18,wm 14 19,we 20 0 14,we 21 1 14,wm 11 20,wm 12 21]
@[simp]def a3s:=[ws 22 9 9,wm 23 11,Y2 24 LJ 22 23,wm 13 24]
@[simp]def a4s:=[wm 25 11,wn 26 25,wc 27 .gtr 26 0,wm 28 27,Ym 29 28 13,wp 30 28 29,wm 10 30]
def a5f:Z9:=(QR a1s (QR a2s (QR a3s (QR a4s .ret))))
theorem jz:Zz prog Zj=some (31,a5f,[.tmp 10]):=by kernel_rfl
@[simp]def a5s:=[wx 3 0,wx 5 2,wb 6 false]
@[simp]def a6s:=[wm 8 1,wc 9 .lss 8 0,wm 10 9,qm 11 10 1,jf 12 10 0 3,ql 13 10 12,Yn 14 10 13,qt 15 10 .geq 11 14,wq 16 10 15]
@[simp]def a7s:=[wb 6 false]
@[simp]def a8s:=[ws 17 5 3,Y1 18 OA 17,wm 7 18]
@[simp]def a9s:VT:=
 ym 19 7<|ym 20 19<|V (qf 21 20 0 5)<|V (Yl 22 20 21)<|V (qf 23 20 0 3)<|V (Yl 24 20 23)<|V (Ym 25 20 1)<|V (Yi 26 20 1 24 25)<|V (qf 27 20 0 26)<|V (Yl 28 20 27)<|V (og 29 20 true (.ia 1 (T 28) (K 0)))<|V (Yl 30 20 29)<|V (og 31 20 true (.beq false (T 22) (T 30)))<|yp 32 20 31<|ym 6 32<|.done
def c9M:Z9:=(QR a5s (Q (QR a6s (CR 16 a7s)) (QR a8s (Q (.any a9s) .ret))))
theorem jo:Zz prog OB=some (33,c9M,[.tmp 6]):=by kernel_rfl
@[simp]def a0t:=[wx 5 0,wx 8 3,wx 9 4,wb 10 false]
@[simp]def a1t:=[ws 12 5 3,wm 13 1,yf 14 0 9,wl 15 14,wm 16 2,ws 17 8 3,Y5 18 Wz 12 13 15 16 17,wm 11 18]
@[simp]def a2t:=[yf 19 1 9,wl 20 19,wc 21 .geq 20 1,wm 22 21,qf 23 22 1 9,Yl 24 22 23,Ym 25 22 11,Yt 26 22 .leq 24 25,wp 27 22 26,wm 10 27]
def c0N:Z9:=(QR a0t (QR a1t (QR a2t .ret)))
theorem jn:Zz prog LP=some (28,c0N,[.tmp 10]):=by kernel_rfl
@[simp]def a3t:=[wx 2 0,wb 4 false]
@[simp]def a4t:=[ws 8 2 1,Y1 9 OG 8,wm 5 9]
@[simp]def a5t:=[wm 10 5,wu 11 10,wm 12 11,qm 13 12 1,Yn 14 12 13,jf 15 12 0 2,ql 16 12 15,Yn 17 12 16,qt 18 12 .neq 14 17,wq 19 12 18]
@[simp]def a6t:=[wb 4 false]
@[simp]def a7t:=[wk 6 0]
@[simp]def a8t:=[wm 20 6,wm 21 1,wn 22 21,wt 23 .lss 20 22]
@[simp]def a9t:=[wm 26 1,wm 27 6,wi 28 3 26 27,ws 29 28 3,Y1 30 OA 29,wm 7 30]
@[simp]def a0u:VT:=
 ym 31 7<|vu 32 31<|ym 33 32<|V (qm 34 33 1)<|V (qm 35 33 6)<|V (qi 36 33 3 34 35)<|V (jf 37 33 0 36)<|V (ql 38 33 37)<|V (jf 39 33 0 2)<|V (ql 40 33 39)<|V (qm 41 33 6)<|V (qi 42 33 1 40 41)<|V (ql 43 33 42)<|V (og 44 33 false (.beq true (T 38) (T 43)))<|vq 45 33 44<|.done
@[simp]def a1u:=[wb 4 false]
@[simp]def a2u:=[wm 24 6,wc 25 .add 24 1,wm 6 25]
def KV:Z9:=
 (Q (QR a8t (CX 23 0)) (Q (.block 1 (QR a9t (Q (.any a0u) (CR 45 a1u)))) (R a2u)))
@[simp]def xi:=[wb 4 true]
def a8f:Z9:=(QR a3t (QR a4t (Q (QR a5t (CR 19 a6t)) (Q (QR a7t (.block 0 (.loop KV))) (QR xi .ret)))))
theorem ju:Zz prog HI=some (46,a8f,[.tmp 4]):=by kernel_rfl
@[simp]def a3u:=[wx 2 0,wx 3 1,wb 4 false]
@[simp]def a4u:=[ws 6 2 1,Y1 7 OG 6,wm 5 7]
@[simp]def a5u:=[wm 8 5,wm 9 8,qs 10 9 3 9,U1 11 9 OJ 10,Yc 12 9 .leq 11 15,wp 13 9 12,wm 14 13,qs 15 14 2 1,qs 16 14 3 9,U2 17 14 LI 15 16,wp 18 14 17,wm 4 18]
def a9f:Z9:=(QR a3u (QR a4u (QR a5u .ret)))
theorem jq:Zz prog HG=some (19,a9f,[.tmp 4]):=by kernel_rfl
@[simp]def a6u:=[wx 5 2,wb 6 false]
@[simp]def a7u:VT:=
 ym 7 1<|yc 8 .geq 7 0<|ym 9 8<|V (Ym 10 9 1)<|V (Ym 11 9 0)<|V (yh 12 9 11)<|V (qf 13 9 0 12)<|V (qf 14 9 0 13)<|V (Yl 15 9 14)<|V (yn 16 9 15)<|V (Yt 17 9 .lss 10 16)<|yp 18 9 17<|ym 19 18<|V (qs 20 19 5 3)<|V (U1 21 19 Oz 20)<|yp 22 19 21<|ym 23 22<|V (qf 24 23 0 5)<|V (Yl 25 23 24)<|V (Ym 26 23 0)<|V (yh 27 23 26)<|V (qf 28 23 0 27)<|V (qf 29 23 0 28)<|V (Yl 30 23 29)<|V (Ym 31 23 1)<|V (Yi 32 23 1 30 31)<|V (qf 33 23 0 32)<|V (Yl 34 23 33)<|V (og 35 23 true (.ia 1 (T 34) (K 0)))<|V (Yl 36 23 35)<|V (og 37 23 true (.beq false (T 25) (T 36)))<|yp 38 23 37<|ym 6 38<|.done
def Lx:Z9:=(QR a6u (Q (.any a7u) .ret))
theorem pF:Zz prog QB=some (39,Lx,[.tmp 6]):=by kernel_rfl
@[simp]def a8u:=[wx 4 1,wx 5 2,wb 6 false]
@[simp]def a9u:VT:=
 Yf 7 1 5<|yl 8 7<|yc 9 .geq 8 1<|ym 10 9<|V (qf 11 10 1 5)<|V (Yl 12 10 11)<|V (Ym 13 10 0)<|V (yh 14 10 13)<|V (qf 15 10 4 14)<|V (Yl 16 10 15)<|V (qf 17 10 0 5)<|V (Yl 18 10 17)<|V (qs 19 10 4 4)<|V (og 20 10 true (.build [zi,zi,zb,zi,zs] [(0,1,(T 18)),(1,4,(T 19))]))<|V (og 21 10 true (.UT (true,[.i .i64, .i .i64, .b, .i .i64, .s],false) [zi] (T 16) (T 20) false))<|V (Yt 22 10 .leq 12 21)<|yp 23 10 22<|ym 6 23<|.done
def S5:Z9:=(QR a8u (Q (.any a9u) .ret))
theorem pE:Zz prog LM=some (24,S5,[.tmp 6]):=by kernel_rfl
@[simp]def a0v:=[wx 2 0,wx 3 1,wk 4 0]
@[simp]def a1v:=[ws 8 2 1,Y1 9 OD 8,wm 5 9]
@[simp]def a2v:=[wm 10 5,wc 11 .neq 10 0]
@[simp]def a3v:=[wm 12 5,wm 4 12]
@[simp]def a4v:=[ws 13 2 1,oo 14 (.build [.nil 1,zb] [(0,1,(T 13))]),wx 15 14,wm 6 15]
@[simp]def a5v:=[wm 16 6,oo 17 (.V6 Oy [(T 16)] []),wm 7 17]
@[simp]def a6v:=[ws 18 3 9,wm 19 7,Y2 20 RT 18 19]
@[simp]def a7v:=[wm 21 6,wh 22 21,yf 23 1 22,wl 24 23,wm 25 24,Ws 26 25 3 9,X1 27 25 HB 26,qc 28 25 .gtr 27 15,wq 29 25 28]
@[simp]def a8v:=[wk 4 30]
@[simp]def a9v:=[wk 4 0]
def a2g:Z9:=(QR a0v (Q (QR a1v (QR a2v (CR 11 a3v))) (QR a4v (QR a5v (QR a6v (Q (QR a7v (CR 29 a8v)) (QR a9v .ret)))))))
theorem oG:Zz prog HE=some (30,a2g,[.tmp 4]):=by kernel_rfl
@[simp]def a0w:=[wx 2 0,wb 4 false]
@[simp]def a1w:=[ws 7 2 1,Y1 8 OD 7,wc 9 .neq 8 0,wm 10 9,qm 11 10 1,Yn 12 10 11,jf 13 10 0 2,ql 14 10 13,Yn 15 10 14,qt 16 10 .neq 12 15,wq 17 10 16]
@[simp]def a2w:=[wb 4 false]
@[simp]def a3w:=[wm 18 1,wn 19 18,wk 20 0]
@[simp]def a4w:=[wt 21 .lss 20 19]
@[simp]def a5w:=[wm 22 20,wi 23 3 18 20,ws 24 23 3,oo 6 (.alloc [zb,zi,zs]),wm 5 22,wo 6 24 3]
@[simp]def a6w:VT:=
 Yf 25 0 6<|yl 26 25<|Yf 27 0 2<|yl 28 27<|ym 29 5<|yi 30 1 28 29<|yl 31 30<|oc 32 (.beq true (T 26) (T 31))<|ym 33 32<|V (Ws 34 33 6 3)<|V (X1 35 33 Oz 34)<|V (Yu 36 33 35)<|vq 37 33 36<|.done
@[simp]def a7w:=[wb 4 false]
@[simp]def a8w:=[wc 38 .add 20 1,wm 20 38]
def F3:Z9:=
 (QR a4w (Q (CX 21 0) (Q (.block 1 (QR a5w (Q (.any a6w) (CR 37 a7w)))) (R a8w))))
@[simp]def xh:=[wb 4 true]
def a3g:Z9:=(QR a0w (Q (QR a1w (CR 17 a2w)) (Q (QR a3w (.block 0 (.loop F3))) (QR xh .ret))))
theorem e4r:Zz prog HD=some (39,a3g,[.tmp 4]):=by kernel_rfl
@[simp]def e5r:=[wx 2 0,wb 3 false]
@[simp]def e6r:=[ws 4 2 9,wl 5 1,Y2 6 LR 4 5,wm 3 6]
def a4g:Z9:=(QR e5r (QR e6r .ret))
theorem e7r:Zz prog S9=some (7,a4g,[.tmp 3]):=by kernel_rfl
@[simp]def e8r:=[wx 2 0,wb 4 false]
@[simp]def e9r:=[yf 6 1 2,wl 7 6,wc 8 .lss 7 0,wm 9 8,jf 10 9 1 2,ql 11 9 10,qm 12 9 1,Yn 13 9 12,qt 14 9 .geq 11 13,wq 15 9 14]
@[simp]def e0s:=[wb 4 false]
@[simp]def e1s:VT:=
 ym 16 1<|Yf 17 1 2<|yl 18 17<|yi 19 3 16 18<|Ys 20 19 3<|Yf 21 2 2<|Ys 22 21 3<|V2 23 QF 20 22<|ym 5 23<|.done
@[simp]def e2s:=[yf 24 0 2,wl 25 24]
@[simp]def e3s:=[wc 27 .eql 25 3,wm 26 27]
@[simp]def e4s:=[wm 28 5,wc 29 .eql 28 0,wm 4 29]
@[simp]def e5s:=[wc 31 .eql 25 4,wm 30 31]
@[simp]def e6s:=[wm 32 5,wc 33 .neq 32 0,wm 4 33]
@[simp]def e7s:=[wc 35 .eql 25 5,wm 34 35]
@[simp]def xg:=[wm 36 5,wc 37 .lss 36 0,wm 4 37]
@[simp]def xe:=[wc 39 .eql 25 6,wm 38 39]
@[simp]def xd:=[wm 40 5,wc 41 .leq 40 0,wm 4 41]
@[simp]def xc:=[wc 43 .eql 25 7,wm 42 43]
@[simp]def xb:=[wm 44 5,wc 45 .gtr 44 0,wm 4 45]
@[simp]def xa:=[wc 47 .eql 25 8,wm 46 47]
@[simp]def w9:=[wm 48 5,wc 49 .geq 48 0,wm 4 49]
@[simp]def wZ:VT:=
 ym 50 5<|yc 51 .geq 50 0<|ym 52 51<|V (Ym 53 52 1)<|V (qf 54 52 1 2)<|V (Yl 55 52 54)<|V (Yi 56 52 3 53 55)<|V (qs 57 52 56 3)<|V (qf 58 52 5 2)<|V (qs 59 52 58 3)<|V (U2 60 52 QF 57 59)<|V (Yc 61 52 .leq 60 0)<|yp 62 52 61<|ym 4 62<|.done
def c1N:Z9:=(QR e8r (Q (QR e9r (CR 15 e0s)) (Q (.any e1s) (Q (QR e2s (.block 0 (QR e3s (CT 26 (QR e4s .ret) (QR e5s (CT 30 (QR e6s .ret) (QR e7s (CT 34 (QR xg .ret) (QR xe (CT 38 (QR xd .ret) (QR xc (CT 42 (QR xb .ret) (QR xa (CR 46 w9)))))))))))))) (Q (.any wZ) .ret)))))
theorem e8s:Zz prog HC=some (63,c1N,[.tmp 4]):=by kernel_rfl
@[simp]def e9s:=[wb 4 false]
@[simp]def e0t:=[wm 5 0,wm 6 1,Y2 7 LH 5 6,wc 8 .geq 7 0,wm 4 8]
def a6g:Z9:=(QR e9s (QR e0t .ret))
theorem F2:Zz prog QA=some (9,a6g,[.tmp 4]):=by kernel_rfl
@[simp]def e1t:=[wx 2 0,wb 3 false]
@[simp]def e2t:=[wl 4 1,ws 5 2 9,oo 6 (.Yz (T 4) [(T 5)]),wu 7 6,wm 3 7]
def a7g:Z9:=(QR e1t (QR e2t .ret))
theorem e3t:Zz prog S8=some (8,a7g,[.tmp 3]):=by kernel_rfl
@[simp]def e4t:=[wb 2 false]
@[simp]def e5t:=[wm 3 0,wm 4 0,wt 5 .neq 3 4,wm 2 5]
def RL:Z9:=(QR e4t (QR e5t .ret))
theorem pD:Zz prog LL=some (6,RL,[.tmp 2]):=by kernel_rfl
@[simp]def e6t:=[wb 2 false]
@[simp]def e7t:=[wm 3 0,wm 4 0,wt 5 .neq 3 4,wm 2 5]
def Qz:Z9:=(QR e6t (QR e7t .ret))
theorem pC:Zz prog LK=some (6,Qz,[.tmp 2]):=by kernel_rfl
@[simp]def e8t:=[wx 2 0,wb 4 false]
@[simp]def e9t:=[yf 10 0 2,wl 11 10,wc 12 .geq 11 3,wm 13 12,qf 14 13 0 2,Yl 15 13 14,Yc 16 13 .leq 15 9,wp 17 13 16]
@[simp]def e0u:=[ws 18 2 9,wm 19 1,Y2 20 HA 18 19,wm 4 20]
@[simp]def e1u:=[wb 5 true]
@[simp]def e2u:=[wb 6 false]
@[simp]def e3u:=[wb 7 false]
@[simp]def e4u:=[wk 8 0]
@[simp]def e5u:=[wm 21 8,yf 22 8 2,wl 23 22,wn 24 23,wt 25 .lss 21 24]
@[simp]def e6u:=[yf 28 8 2,wl 29 28,wm 30 8,wi 31 9 29 30,ws 32 31 9,wm 33 1,Y2 34 LJ 32 33,wm 9 34]
@[simp]def e7u:=[wm 35 5,wm 36 35,Ym 37 36 9,wp 38 36 37,wm 5 38]
@[simp]def wY:=[wm 39 6,wm 40 39,qm 41 40 9,wq 42 40 41,wm 6 42]
@[simp]def wX:=[wm 43 8,wc 44 .eql 43 0]
@[simp]def wW:=[wm 45 9,wm 7 45]
@[simp]def wV:=[wm 26 8,wc 27 .add 26 1,wm 8 27]
def Ps:Z9:=
 (Q (QR e5u (CX 25 0)) (Q (.block 1 (QR e6u (QR e7u (QR wY (QR wX (CT 44 (R wW) .skip)))))) (R wV)))
@[simp]def wU:=[yf 46 0 2,wl 47 46]
@[simp]def wT:=[wc 49 .eql 47 1,wm 48 49]
@[simp]def wS:=[wb 4 true]
@[simp]def wR:=[wc 51 .eql 47 10,wm 50 51]
@[simp]def wQ:=[wm 52 7,wu 53 52,wm 4 53]
@[simp]def wP:=[wc 55 .eql 47 11,wm 54 55]
@[simp]def wO:=[wm 56 5,wm 4 56]
@[simp]def wN:=[wc 58 .eql 47 12,wm 57 58]
@[simp]def wK:=[wm 59 6,wm 4 59]
@[simp]def wJ:=[wb 4 false]
def a1h:Z9:=(QR e8t (Q (QR e9t (CR 17 e0u)) (QR e1u (QR e2u (QR e3u (Q (QR e4u (.block 0 (.loop Ps))) (Q (QR wU (.block 2 (QR wT (CT 48 (QR wS .ret) (QR wR (CT 50 (QR wQ .ret) (QR wP (CT 54 (QR wO .ret) (QR wN (CR 57 wK)))))))))) (QR wJ .ret))))))))
theorem e8u:Zz prog LJ=some (60,a1h,[.tmp 4]):=by kernel_rfl
@[simp]def e9u:=[wx 1 0,wb 2 false]
@[simp]def e0v:=[yf 3 0 1,wl 4 3]
@[simp]def e1v:=[yf 5 1 1,wl 6 5,wc 7 .eql 6 0,wm 8 7,qf 9 8 2 1,Yl 10 8 9,og 11 8 true (.lens (T 10)),Yc 12 8 .leq 11 12,wp 13 8 12,wm 2 13]
@[simp]def e2v:=[yf 14 2 1,wl 15 14,oo 16 (.bin .eql (T 15) (.const (.string ⟨#[]⟩))),wm 2 16]
def a2h:Z9:=(QR e9u (Q (QR e0v (CR 4 e1v)) (QR e2v .ret)))
theorem jw:Zz prog OA=some (17,a2h,[.tmp 2]):=by kernel_rfl
@[simp]def e3v:=[wx 2 0,wx 3 1,wb 4 false]
@[simp]def e4v:=[wk 5 0]
@[simp]def e5v:=[wm 7 5,yf 8 8 3,wl 9 8,wn 10 9,wt 11 .lss 7 10]
@[simp]def e6v:VT:=
 Ys 14 2 1<|Yf 15 8 3<|yl 16 15<|ym 17 5<|yi 18 9 16 17<|Ys 19 18 9<|V2 20 LI 14 19<|ym 6 20<|.done
@[simp]def e7v:=[wm 21 6,wu 22 21]
@[simp]def e8v:=[wb 4 false]
@[simp]def e9v:=[wm 12 5,wc 13 .add 12 1,wm 5 13]
def Vf:Z9:=
 (Q (QR e5v (CX 11 0)) (Q (.block 1 (Q (.any e6v) (QR e7v (CR 22 e8v)))) (R e9v)))
@[simp]def e0w:=[yf 23 0 3,wl 24 23]
@[simp]def e1w:=[wc 26 .eql 24 1,wm 25 26]
@[simp]def wI:=[wc 27 .eql 24 2,wm 25 27]
@[simp]def wH:=[yf 28 8 3,wl 29 28,wn 30 29,wc 31 .eql 30 0,wm 4 31]
@[simp]def wG:=[wc 33 .eql 24 3,wm 32 33]
@[simp]def wF:=[wc 34 .eql 24 4,wm 32 34]
@[simp]def wE:=[wc 35 .eql 24 5,wm 32 35]
@[simp]def wD:=[wc 36 .eql 24 6,wm 32 36]
@[simp]def wC:=[wc 37 .eql 24 7,wm 32 37]
@[simp]def wA:=[wc 38 .eql 24 8,wm 32 38]
@[simp]def wy:=[yf 39 8 3,wl 40 39,wn 41 40,wc 42 .eql 41 0,wm 43 42,qs 44 43 2 1,qf 45 43 1 3,Yl 46 43 45,qf 47 43 2 3,qs 48 43 47 3,V3 49 43 Ox 44 46 48,wp 50 43 49,wm 4 50]
@[simp]def wv:=[wc 52 .eql 24 9,wm 51 52]
@[simp]def wj:=[yf 53 8 3,wl 54 53,wn 55 54,wc 56 .eql 55 0,wm 57 56,qs 58 57 2 1,qf 59 57 1 3,Yl 60 57 59,qf 61 57 2 3,qs 62 57 61 3,V3 63 57 Ox 58 60 62,wp 64 57 63,wm 65 64,qs 66 65 2 1,qf 67 65 1 3,Yl 68 65 67,qf 69 65 5 3,qs 70 65 69 3,V3 71 65 Ox 66 68 70,wp 72 65 71,wm 4 72]
@[simp]def wg:=[wc 74 .eql 24 10,wm 73 74]
@[simp]def wa:=[yf 75 8 3,wl 76 75,wn 77 76,wc 78 .eql 77 1,wm 4 78]
@[simp]def v8:=[wc 80 .eql 24 11,wm 79 80]
@[simp]def v7:=[wc 81 .eql 24 12,wm 79 81]
@[simp]def vZ:=[yf 82 8 3,wl 83 82,wn 84 83,wc 85 .gtr 84 0,wm 4 85]
@[simp]def vY:=[wb 4 false]
def c2N:Z9:=(QR e3v (Q (QR e4v (.block 0 (.loop Vf))) (Q (QR e0w (.block 2 (Q (QR e1w (CT 25 .skip (R wI))) (CT 25 (QR wH .ret) (Q (QR wG (CT 32 .skip (QR wF (CT 32 .skip (QR wE (CT 32 .skip (QR wD (CT 32 .skip (QR wC (CT 32 .skip (R wA))))))))))) (CT 32 (QR wy .ret) (QR wv (CT 51 (QR wj .ret) (QR wg (CT 73 (QR wa .ret) (Q (QR v8 (CT 79 .skip (R v7))) (CR 79 vZ)))))))))))) (QR vY .ret))))
theorem jr:Zz prog LI=some (86,c2N,[.tmp 4]):=by kernel_rfl
@[simp]def e2w:=[wx 1 0,wb 2 false]
@[simp]def e3w:=[yf 3 0 1,wl 4 3]
@[simp]def e4w:=[ws 5 1 3,yf 6 2 1,wl 7 6,oo 8 (.build [zb,zi,zs] [(0,1,(B true)),(2,1,(T 7))]),oo 9 (.eqs false [.b, .i .i64, .s] (T 5) (T 8)),wm 10 9,qf 11 10 2 1,Yl 12 10 11,og 13 10 true (.lens (T 12)),Yc 14 10 .leq 13 12,wp 15 10 14,wm 2 15]
@[simp]def e5w:=[ws 16 1 3,yf 17 1 1,wl 18 17,oo 19 (.build [zb,zi,zs] [(1,1,(T 18))]),oo 20 (.eqs false [.b, .i .i64, .s] (T 16) (T 19)),wm 2 20]
def a4h:Z9:=(QR e2w (Q (QR e3w (CR 4 e4w)) (QR e5w .ret)))
theorem e6w:Zz prog Oz=some (21,a4h,[.tmp 2]):=by kernel_rfl
@[simp]def e7w:=[wx 3 1]
@[simp]def e8w:=[wb 4 false]
@[simp]def e9w:=[yf 5 0 3,wl 6 5]
@[simp]def e0x:=[wc 8 .eql 6 1,wm 7 8]
@[simp]def e1x:=[wc 9 .eql 6 2,wm 7 9]
@[simp]def e2x:=[yf 10 8 3,wl 11 10,wn 12 11,wc 13 .eql 12 0,wm 4 13]
@[simp]def e3x:=[wc 15 .eql 6 3,wm 14 15]
@[simp]def e4x:=[wc 16 .eql 6 4,wm 14 16]
@[simp]def e5x:=[wc 17 .eql 6 5,wm 14 17]
@[simp]def e6x:=[wc 18 .eql 6 6,wm 14 18]
@[simp]def vX:=[wc 19 .eql 6 7,wm 14 19]
@[simp]def vW:=[wc 20 .eql 6 8,wm 14 20]
@[simp]def vV:=[yf 21 8 3,wl 22 21,wn 23 22,wc 24 .eql 23 0,wm 25 24,Ym 26 25 0,qf 27 25 1 3,Yl 28 25 27,qf 29 25 2 3,qs 30 25 29 3,V3 31 25 Ow 26 28 30,wp 32 25 31,wm 4 32]
@[simp]def vU:=[wc 34 .eql 6 9,wm 33 34]
@[simp]def vT:=[yf 35 8 3,wl 36 35,wn 37 36,wc 38 .eql 37 0,wm 39 38,Ym 40 39 0,qf 41 39 1 3,Yl 42 39 41,qf 43 39 2 3,qs 44 39 43 3,V3 45 39 Ow 40 42 44,wp 46 39 45,wm 47 46,Ym 48 47 0,qf 49 47 1 3,Yl 50 47 49,qf 51 47 5 3,qs 52 47 51 3,V3 53 47 Ow 48 50 52,wp 54 47 53,wm 4 54]
@[simp]def vS:=[wc 56 .eql 6 10,wm 55 56]
@[simp]def vR:=[yf 57 8 3,wl 58 57,wn 59 58,wc 60 .eql 59 1,wm 4 60]
@[simp]def vQ:=[wc 62 .eql 6 11,wm 61 62]
@[simp]def vP:=[wc 63 .eql 6 12,wm 61 63]
@[simp]def vO:=[yf 64 8 3,wl 65 64,wn 66 65,wc 67 .gtr 66 0,wm 4 67]
@[simp]def vN:=[wm 68 0,wm 69 0,wh 70 69,yf 71 1 70,wl 72 71,wm 73 72,qm 74 73 4,Yu 75 73 74,wq 76 73 75,wh 77 68,yf 78 1 77,wo 78 76 1]
def WL:Z9:=(QR e7w (QR e8w (Q (QR e9w (.block 0 (Q (QR e0x (CT 7 .skip (R e1x))) (CT 7 (R e2x) (Q (QR e3x (CT 14 .skip (QR e4x (CT 14 .skip (QR e5x (CT 14 .skip (QR e6x (CT 14 .skip (QR vX (CT 14 .skip (R vW))))))))))) (CT 14 (R vV) (QR vU (CT 33 (R vT) (QR vS (CT 55 (R vR) (Q (QR vQ (CT 61 .skip (R vP))) (CT 61 (R vO) .skip)))))))))))) (R vN))))
theorem oJ:Zz prog Oy=some (79,WL,[]):=by kernel_rfl
@[simp]def e7x:=[wx 2 0]
@[simp]def e8x:=[wm 6 1,ws 7 2 9,oo 8 (.Yz (T 6) [(T 7)])]
@[simp]def e9x:=[yf 9 8 2,wl 10 9,wn 11 10,wk 12 0]
@[simp]def e0y:=[wt 13 .lss 12 11]
@[simp]def e1y:=[wi 14 9 10 12,ws 15 14 9,oo 5 (.alloc [zi,zi,zb,zi,zs,zb,zi,zs, .nil 9]),wo 5 15 9]
@[simp]def e2y:=[ws 16 5 9,wm 17 1,Y2 18 RT 16 17]
@[simp]def e3y:=[wc 19 .add 12 1,wm 12 19]
def Nh:Z9:=
 (QR e0y (Q (CX 13 0) (Q (.block 1 (QR e1y (R e2y))) (R e3y))))
def c3N:Z9:=(QR e7x (QR e8x (QR e9x (.block 0 (.loop Nh)))))
theorem oN:Zz prog RT=some (20,c3N,[]):=by kernel_rfl
@[simp]def e4y:=[wx 1 0,wk 2 0]
@[simp]def e5y:=[oo 3 (.alloc [zi]),on (.st (T 3) (K 0) 1)]
@[simp]def e6y:=[ws 4 1 9,oo 5 (.V6 Ov [] [(T 3)]),Y2 6 RT 4 5]
@[simp]def e7y:=[wl 7 3,wm 2 7]
def a8h:Z9:=(QR e4y (QR e5y (QR e6y (QR e7y .ret))))
theorem oL:Zz prog HB=some (8,a8h,[.tmp 2]):=by kernel_rfl
@[simp]def e8y:=[wk 4 0]
@[simp]def e9y:=[wm 6 0,wn 7 6,wk 8 0]
@[simp]def e0z:=[wt 9 .lss 8 7]
@[simp]def e1z:=[wm 10 8,wm 5 10]
@[simp]def e2z:=[wm 11 1,wm 12 0,wm 13 5,wi 14 9 12 13,ws 15 14 9,oo 16 (.Yz (T 11) [(T 15)])]
@[simp]def e3z:=[wm 17 5,wm 4 17]
@[simp]def e4z:=[wc 18 .add 8 1,wm 8 18]
def MS:Z9:=
 (QR e0z (Q (CX 9 0) (Q (.block 1 (QR e1z (QR e2z (CR 16 e3z)))) (R e4z))))
@[simp]def e5z:=[wk 4 (-1)]
def a9h:Z9:=(QR e8y (Q (QR e9y (.block 0 (.loop MS))) (QR e5z .ret)))
theorem F1:Zz prog LH=some (19,a9h,[.tmp 4]):=by kernel_rfl
@[simp]def e6z:=[wx 2 0,wb 4 false]
@[simp]def e7z:=[yf 7 1 2,wl 8 7,wc 9 .lss 8 0,wm 10 9,jf 11 10 1 2,ql 12 10 11,qm 13 10 1,Yn 14 10 13,qt 15 10 .geq 12 14,wq 16 10 15]
@[simp]def e8z:=[wb 4 false]
@[simp]def e9z:=[wm 17 1,yf 18 1 2,wl 19 18,wi 20 3 17 19,ws 21 20 3,oo 5 (.alloc [zb,zi,zs]),wo 5 21 3]
@[simp]def e0A:=[ws 22 5 3,yf 23 2 2,ws 24 23 3,Y2 25 QC 22 24,wm 6 25]
@[simp]def e1A:=[yf 26 0 2,wl 27 26]
@[simp]def e2A:=[wc 29 .eql 27 3,wm 28 29]
@[simp]def e3A:=[wm 30 6,wc 31 .eql 30 0,wm 4 31]
@[simp]def e4A:=[wc 33 .eql 27 4,wm 32 33]
@[simp]def e5A:=[wm 34 6,wc 35 .neq 34 0,wm 4 35]
@[simp]def vM:=[wc 37 .eql 27 5,wm 36 37]
@[simp]def vL:=[wm 38 6,wc 39 .lss 38 0,wm 4 39]
@[simp]def vK:=[wc 41 .eql 27 6,wm 40 41]
@[simp]def vJ:=[wm 42 6,wc 43 .leq 42 0,wm 4 43]
@[simp]def vI:=[wc 45 .eql 27 7,wm 44 45]
@[simp]def vH:=[wm 46 6,wc 47 .gtr 46 0,wm 4 47]
@[simp]def vG:=[wc 49 .eql 27 8,wm 48 49]
@[simp]def vF:=[wm 50 6,wc 51 .geq 50 0,wm 4 51]
@[simp]def vE:=[wm 52 6,wc 53 .geq 52 0,wm 54 53,qs 55 54 5 3,qf 56 54 5 2,qs 57 54 56 3,U2 58 54 QC 55 57,Yc 59 54 .leq 58 0,wp 60 54 59,wm 4 60]
def c4N:Z9:=(QR e6z (Q (QR e7z (CR 16 e8z)) (QR e9z (QR e0A (Q (QR e1A (.block 0 (QR e2A (CT 28 (QR e3A .ret) (QR e4A (CT 32 (QR e5A .ret) (QR vM (CT 36 (QR vL .ret) (QR vK (CT 40 (QR vJ .ret) (QR vI (CT 44 (QR vH .ret) (QR vG (CR 48 vF)))))))))))))) (QR vE .ret))))))
theorem e6A:Zz prog HA=some (61,c4N,[.tmp 4]):=by kernel_rfl
@[simp]def e7A:=[wx 3 0,wx 5 2,wb 6 false]
@[simp]def e8A:=[ws 8 5 3,Y1 9 OA 8,wm 7 9]
@[simp]def e9A:VT:=
 ym 10 1<|yc 11 .geq 10 0<|ym 12 11<|V (Ym 13 12 1)<|V (qf 14 12 0 3)<|V (Yl 15 12 14)<|V (yn 16 12 15)<|V (Yt 17 12 .lss 13 16)<|yp 18 12 17<|ym 19 18<|V (Ym 20 19 7)<|yp 21 19 20<|ym 22 21<|V (qf 23 22 0 5)<|V (Yl 24 22 23)<|V (qf 25 22 0 3)<|V (Yl 26 22 25)<|V (Ym 27 22 1)<|V (Yi 28 22 1 26 27)<|V (Yl 29 22 28)<|V (og 30 22 true (.beq false (T 24) (T 29)))<|yp 31 22 30<|ym 6 31<|.done
def c5N:Z9:=(QR e7A (QR e8A (Q (.any e9A) .ret)))
theorem jt:Zz prog Ox=some (32,c5N,[.tmp 6]):=by kernel_rfl
@[simp]def e0B:=[wx 5 2,wb 6 false]
@[simp]def e1B:VT:=
 ym 7 1<|yc 8 .geq 7 0<|ym 9 8<|V (Ym 10 9 1)<|V (Ym 11 9 0)<|V (yh 12 9 11)<|V (qf 13 9 0 12)<|V (qf 14 9 0 13)<|V (Yl 15 9 14)<|V (yn 16 9 15)<|V (Yt 17 9 .lss 10 16)<|yp 18 9 17<|ym 19 18<|V (qf 20 19 0 5)<|V (Yl 21 19 20)<|V (Ym 22 19 0)<|V (yh 23 19 22)<|V (qf 24 19 0 23)<|V (qf 25 19 0 24)<|V (Yl 26 19 25)<|V (Ym 27 19 1)<|V (Yi 28 19 1 26 27)<|V (Yl 29 19 28)<|V (og 30 19 true (.beq false (T 21) (T 29)))<|yp 31 19 30<|ym 32 31<|V (qs 33 32 5 3)<|V (U1 34 32 Oz 33)<|yp 35 32 34<|ym 6 35<|.done
def GM:Z9:=(QR e0B (Q (.any e1B) .ret))
theorem oK:Zz prog Ow=some (36,GM,[.tmp 6]):=by kernel_rfl
@[simp]def e2B:=[wx 2 0]
@[simp]def e3B:=[wl 3 1,wc 4 .add 3 1,wo 1 4 1]
def a3i:Z9:=(QR e2B (R e3B))
theorem oM:Zz prog Ov=some (5,a3i,[]):=by kernel_rfl
def Vl.right(v:Vl):Bool:=if v.text then decide (v.n=0)&&decide (v.s.size<=12)else decide (v.s=⟨#[]⟩)
theorem e8b(v:Vl):ZU prog true Oz [v.av] [] (vb v.right) []:=by
 refine YD e6w (by simp) (by decide) rfl ?_;simp-dsimp[a4h,Vl.right]
 grind
def WQ(t:Tb):Prop:=1<=t.length/\t.length<=4
noncomputable def EO(t:Tb):Int:=if Yp (WQ t)=true then 0 else 1
@[simp]theorem e0c(t:Tb):(EO t != 0)= !Yp (WQ t):=by
 unfold EO;cases Yp (WQ t)<;>rfl
@[simp]theorem e1c(t:Tb):(EO t==0)=Yp (WQ t):=by
 unfold EO;cases Yp (WQ t)<;>rfl
theorem e2c{t:Tb}(h:WQ t):EO t=0:=by unfold EO;rw[if_pos (Rn.2 h)]
theorem e3c{t:Tb}(h:¬WQ t):EO t=1:=by unfold EO;rw[if_neg (by simpa using h)]
theorem e4c(t:Tb):ZU prog true OD [YS t] [] (vi (EO t)) []:=by
 refine YD a5e (by simp) (by decide) rfl ?_
 by_cases h:WQ t
 ·have h':=h;unfold WQ at h';simp-dsimp[a2e,YS,Wr,e2c h];omega
 ·have h':=h;unfold WQ at h';simp-dsimp[a2e,YS,Wr,e3c h];omega
def e5c(t:Tb)(r:List Vl)(i:Nat):Prop:=∀(v:Vl) (c:Bool),r[i]? =some v->t[i]? =some c->v.text=c/\v.right=true
def Fits(t:Tb)(r:List Vl):Prop:=WQ t/\r.length=t.length/\ZH r.length (e5c t r)
theorem e6c{t:Tb}{r:List Vl}{i:Nat}{v:Vl}{c:Bool}(hv:r[i]? =some v)(hc:t[i]? =some c)(h:¬(v.text=c/\v.right=true)):¬Fits t r:=
 fun hf=>h (hf.2.2 i (a7y.1 hv).1 v c hv hc)
theorem e7c{t:Tb}{r:List Vl}{i:Nat}{v:Vl}{c:Bool}(hv:r[i]? =some v)(hc:t[i]? =some c)(h:v.text=c/\v.right=true):e5c t r i:=by
 intro v' c' h1 h2;rw[hv]at h1;rw[hc]at h2;cases h1;cases h2;exact h
theorem e8c(t:Tb)(r:List Vl):ZU prog true HD [YS t, .iv (r9 r)] [] (vb (Yp (Fits t r))) []:=by
 refine YD e4r (by simp) (by decide) rfl ?_;simp-dsimp[a3g,YS];refine Zu (e4c t) (by simp[YS]) rfl ?_;simp-dsimp[Wr,r9, -a9U];refine⟨fun h1=>⟨fun h3 h=>by have:=h.2.1;omega,fun h3=>?_⟩,fun h h'=>h h'.1⟩
 refine YZ [] [6] r.length (fun i=>⟨[(20,vi i),(19,vi r.length),(18, .iv (.Z6 3 (r.map Vl.cells))),(2, .ptr 2 0)],[(2, .box [.iv (.Z6 1 (rq t))])]⟩)
  (fun i=>ZH i (e5c t r)) ?_ ?_ ?_
 ·simp-dsimp
 ·simp-dsimp
 ·intro i hi hq;simp-dsimp[F3];refine⟨fun ZV=>?_,fun X3=>?_⟩
  ·obtain⟨v,hv⟩:=Zw ZV;obtain⟨c,hc⟩:∃c,t[i]? =some c:=Zw (by omega);simp-dsimp[hv,hc];refine⟨fun e=>Zu (e8b v) (by simp) rfl ?_,fun e=>e6c hv hc fun h=>e h.1⟩;simp-dsimp;have h2:=h1.2;exact⟨fun e2=>e6c hv hc (by simp[e2]),fun e2=>⟨ZV,Zo (by omega),hq.succ (e7c hv hc ⟨e,e2⟩)⟩⟩
  ·exact⟨h1,by omega,fun j hj=>hq j (by omega)⟩
def RM(a b:Int):Int:=if a<b then-1 else if b<a then 1 else 0
def WO(a b:ByteArray):Int:=if UI a b=true then-1 else if a=b then 0 else 1
def Vl.cmp(a b:Vl):Int:=if a.text=true then(if b.text=true then WO a.s b.s else 1)else if b.text=true then-1 else RM a.n b.n
theorem b0u(a:ByteArray):ZU prog true LL [.iv (.v (.string a))] [] (vb false) []:=by
 refine YD pD (by simp) (by decide) rfl ?_;simp-dsimp[RL]
theorem b1u(a:Int):ZU prog true LK [vi a] [] (vb false) []:=by
 refine YD pC (by simp) (by decide) rfl ?_;simp-dsimp[Qz]
theorem b2u(a:ByteArray):UI a a=false:=by
 unfold UI;generalize a.toList=x
 induction x with
 |nil=>rfl
 |cons c x ih=>simp[Op.bytesLess,ih]
theorem f3N(a b:ByteArray):ZU prog true HK [.iv (.v (.string a)), .iv (.v (.string b))] [] (vi (WO a b)) []:=by
 refine YD pB (by simp) (by decide) rfl ?_;simp-dsimp[RK];refine Zu (b0u a) (by simp) rfl ?_;simp-dsimp;refine Zu (b0u b) (by simp) rfl ?_;simp-dsimp[WO]
 grind
theorem f4N(a b:Int):ZU prog true HJ [vi a,vi b] [] (vi (RM a b)) []:=by
 refine YD pA (by simp) (by decide) rfl ?_;simp-dsimp[Qy];refine Zu (b1u a) (by simp) rfl ?_;simp-dsimp;refine Zu (b1u b) (by simp) rfl ?_;simp-dsimp[RM]
 grind
theorem b3u(a b:Vl):ZU prog true QF [a.av,b.av] [] (vi (a.cmp b)) []:=by
 refine YD pz (by simp) (by decide) rfl ?_
 cases ha:a.text<;>cases hb:b.text<;>simp-dsimp[a6c,ha,hb,Vl.cmp]
 ·exact Zu (f4N a.n b.n) (by simp) rfl (by simp)
 ·exact Zu (f3N a.s b.s) (by simp) rfl (by simp)
theorem b4u:∀(p x y:List UInt8),Op.bytesLess (p++x) (p++y)=Op.bytesLess x y
 | [],x,y=>rfl
 |c::p,x,y=>by simp[Op.bytesLess,b4u p x y]
theorem b5u(a:ByteArray):a.toList=a.data.toList:=by simp[ByteArray.toList_eq]
def JI(a b:ByteArray)(i:Nat):Prop:=i<=a.size/\i<=b.size/\∀j,j<i->a[j]? =b[j]?
theorem b7u(a:ByteArray)(i:Nat):a[i]? =a.data.toList[i]? :=by
 simp only[Array.getElem?_toList];rfl
theorem JI.split{a b:ByteArray}{i:Nat}(h:JI a b i):∃p,a.toList=p++a.data.toList.drop i/\b.toList=p++b.data.toList.drop i:=by
 refine⟨a.data.toList.take i,by rw[b5u,c6Z],?_⟩
 have:a.data.toList.take i=b.data.toList.take i:=by
  apply b9j;intro j;simp only[a5N];split
  ·rename_i hj;rw[<-b7u, <-b7u];exact h.2.2 j hj
  ·rfl
 rw[this,b5u,c6Z]
theorem b8u{l:List UInt8}{i:Nat}{c:UInt8}(h:l[i]? =some c):l.drop i=c::l.drop (i+1):=by
 have hi:=(a7y.1 h).1;rw[List.drop_eq_getElem_cons hi,(a7y.1 h).2]
theorem JI.lt{a b:ByteArray}{i:Nat}(h:JI a b i){c d:UInt8}(h1:a[i]? =some c)(h2:b[i]? =some d)(hcd:c<d):WO a b= -1:=by
 obtain⟨p,e1,e2⟩:=h.split;rw[b7u]at h1 h2
 have:UI a b=true:=by
  unfold UI;rw[e1,e2,b4u,b8u h1,b8u h2];simp-dsimp[Op.bytesLess,hcd]
 simp-dsimp[WO,this]
theorem JI.gt{a b:ByteArray}{i:Nat}(h:JI a b i){c d:UInt8}(h1:a[i]? =some c)(h2:b[i]? =some d)(hcd:d<c):WO a b=1:=by
 obtain⟨p,e1,e2⟩:=h.split
 have ZS:a≠b:=by
  rintro rfl;rw[h1]at h2;cases h2;exact absurd hcd (by simp)
 rw[b7u]at h1 h2
 have:UI a b=false:=by
  unfold UI;rw[e1,e2,b4u,b8u h1,b8u h2]
  have:¬c<d:=by
   have:=UInt8.lt_iff_toNat_lt.1 hcd;rw[UInt8.lt_iff_toNat_lt];omega
  have h3:¬c=d:=by rintro rfl;exact absurd hcd (by simp)
  simp-dsimp[Op.bytesLess,this,h3]
 simp-dsimp[WO,this,ZS]
theorem b9u(a:ByteArray):a.size=a.data.toList.length:=by rw[Array.length_toList];rfl
theorem JI.f5N{a b:ByteArray}(h:JI a b a.size)(hl:a.size<b.size):WO a b= -1:=by
 obtain⟨p,e1,e2⟩:=h.split
 have:UI a b=true:=by
  unfold UI;rw[e1,e2,b4u];rw[b9u]at hl⊢;simp only[c4b];rw[b9u]at hl
  cases hd:b.data.toList.drop a.data.toList.length with
  |nil=>have:=congrArg List.length hd;simp at this;simp at hl;omega
  |cons x y=>rfl
 simp-dsimp[WO,this]
theorem JI.f6N{a b:ByteArray}(h:JI a b b.size)(hl:b.size<a.size):WO a b=1:=by
 obtain⟨p,e1,e2⟩:=h.split
 have ZS:a≠b:=by rintro rfl;omega
 have:UI a b=false:=by
  unfold UI;rw[e1,e2,b4u];rw[b9u];simp only[c4b]
  cases (a.data.toList.drop b.data.toList.length)<;>rfl
 simp-dsimp[WO,this,ZS]
theorem JI.f7N{a b:ByteArray}(h:JI a b a.size)(hl:b.size=a.size):WO a b=0:=by
 obtain⟨p,e1,e2⟩:=h.split
 have:a=b:=by
  have e:a.data.toList=b.data.toList:=by
   rw[<-b5u, <-b5u,e1,e2]
   congr 1
   rw[b9u];rw[b9u,b9u]at hl;rw[c4b, <-hl,c4b]
  cases a;cases b;simp only at e
  congr 1
  exact Array.toList_inj.1 e
 subst this;simp-dsimp[WO,b2u]
theorem b0v(a b:Vl)(hla:a.s.size<2^63):ZU prog true QC [a.av,b.av] [] (vi (a.cmp b)) []:=by
 refine YD py (by simp) (by decide) rfl ?_
 cases ha:a.text<;>cases hb:b.text<;>simp-dsimp[a3f,ha,hb,Vl.cmp]
 ·simp-dsimp[RM];grind
 ·refine YZ [] [] (min a.s.size b.s.size) (fun i=>⟨[(5,vi i),(2, .ptr 2 0),(3, .ptr 3 0)],[(3, .box [.iv (cb true), .iv (ci b.n), .iv (.v (.string b.s))]),(2, .box [.iv (cb true), .iv (ci a.n), .iv (.v (.string a.s))])]⟩)
   (fun i=>JI a.s b.s i) ?_ ?_ ?_
  ·simp-dsimp
  ·exact⟨c4u _,c4u _,fun j hj=>absurd hj (Nat.not_lt_zero _)⟩
  ·intro i hi hq;simp-dsimp[Lw]
   have hE:∀h:a.s.size<=i\/b.s.size<=i,(a.s.size<b.s.size-> -1=WO a.s b.s)∧
    (b.s.size<=a.s.size->(b.s.size<a.s.size->1=WO a.s b.s)/\(a.s.size<=b.s.size->0=WO a.s b.s)):=by
    intro h;have h1:=hq.1;have h2:=hq.2.1;refine⟨fun g=>?_,fun g=>⟨fun g2=>?_,fun g2=>?_⟩⟩
    ·have e:i=a.s.size:=by omega
     subst e;exact hq.f5N g |>.symm
    ·have e:i=b.s.size:=by omega
     subst e;exact hq.f6N g2 |>.symm
    ·have e:i=a.s.size:=by omega
     subst e;exact(hq.f7N (by omega)).symm
   refine⟨fun h1=>⟨fun h2=>?_,fun h2=>hE (.inr h2)⟩,fun h=>hE (.inl h)⟩;obtain⟨c,hc⟩:∃c,a.s[i]? =some c:=⟨_,getElem?_pos a.s i h1⟩;obtain⟨d,hd⟩:∃c,b.s[i]? =some c:=⟨_,getElem?_pos b.s i h2⟩;simp-dsimp[hc,hd]
   refine⟨fun g=>(hq.lt hc hd (UInt8.lt_iff_toNat_lt.2 g)).symm,fun g=>⟨fun g2=>(hq.gt hc hd (UInt8.lt_iff_toNat_lt.2 g2)).symm,fun g2=>⟨by omega,Zo (by omega),by omega,by omega,fun j hj=>?_⟩⟩⟩
   by_cases e:j=i
   ·subst e;rw[hc,hd];congr 1;exact UInt8.toNat_inj.1 (by omega)
   ·exact hq.2.2 j (by omega)
def Pd.box(p:Pd):Ob:= .box [.iv (ci p.op), .iv (ci p.col), .iv (cb p.v.text), .iv (ci p.v.n), .iv (.v (.string p.v.s)), .iv (cb p.w.text), .iv (ci p.w.n), .iv (.v (.string p.w.s)), .iv (.Z6 9 (p.l.map Pd.cells))]
theorem b2Q{p:Pd}(h:p.Ok):ZU prog true OJ [p.av] [] (vi (IntKind.i64.wrap p.size)) []:=by
 induction h with
 |mk p hl _ _ hq ih=>
 refine YD oO (by simp) (by decide) rfl ?_;simp-dsimp[a8b,Pd.Z4]
 refine YZ [] [] p.l.length (fun i=>⟨[(4,vi i),(3,vi (IntKind.i64.wrap (1+Pd.sizes (p.l.take i)))),(1, .ptr 1 0)],[(1,p.box)]⟩)
  (fun _=>True) ?_ trivial ?_
 ·simp-dsimp[Pd.box];rfl
 ·intro i hi _;simp-dsimp[GN,Pd.box];refine⟨fun ZV=>?_,fun X3=>?_⟩
  ·obtain⟨q,Wa⟩:=Zw ZV;simp-dsimp[Wa,Pd.Z8 q];refine Zu (ih q (a8y Wa)) (by simp[Pd.Z4]) (by simp[Pd.Z4]) ?_;simp-dsimp;refine⟨ZV,Zo (by omega),?_⟩;rw[d8Y,Pd.Ni Wa,c8U]
  ·rw[Pd.size_eq,a2B X3]
mutual
def Pd.fold{σ:Type}(F:Pd->σ->σ):Pd->σ->σ
 | .mk o c v w l,st=>Pd.Xs F l (F (.mk o c v w l) st)
def Pd.Xs{σ:Type}(F:Pd->σ->σ):List Pd->σ->σ
 | [],st=>st
 |p::r,st=>Pd.Xs F r (p.fold F st)
end
theorem Pd.fold_eq{σ:Type}(F:Pd->σ->σ)(p:Pd)(st:σ):p.fold F st=Pd.Xs F p.l (F p st):=by cases p;rw[Pd.fold];rfl
theorem Pd.Qu{σ:Type}(F:Pd->σ->σ)(st:σ):Pd.Xs F [] st=st:=by rw[Pd.Xs]
theorem Pd.Us{σ:Type}(F:Pd->σ->σ):∀{l:List Pd} {i:Nat} {p:Pd} (st:σ),l[i]? =some p->Pd.Xs F (l.take (i+1)) st=p.fold F (Pd.Xs F (l.take i) st)
 | [],i,p,st,h=>by cases h
 |q::r,0,p,st,h=>by
  simp only[a9E,a5y]at h;subst h;simp-dsimp[Pd.Xs]
 |q::r,i+1,p,st,h=>by
  simp only[a2I]at h;simp only[List.take_succ_cons,Pd.Xs];exact Pd.Us F _ h
theorem b3Q{σ:Type}(f:FuncId)(b:Bool)(F:Pd->σ->σ)(cs:σ->List IV)(hf:XI prog f=true)
 (hdo:∀(p:Pd) (st:σ),ZU prog false f (bif b then[.ptr 1000 0,p.av]else[p.av, .ptr 1000 0]) [(1000, .box ((cs st).map .iv))] (.Zp []) [(1000, .box ((cs (F p st)).map .iv))]) {p:Pd} (h:p.Ok):
 ∀st:σ,ZU prog false RT [p.av, .fn f (bif b then[.ptr 1000 0]else[]) (bif b then[]else[.ptr 1000 0])] [(1000, .box ((cs st).map .iv))] (.Zp []) [(1000, .box ((cs (p.fold F st)).map .iv))]:=by
 induction h with
 |mk p hl _ _ hq ih=>
 intro st;refine sc oN (by simp) (by decide) (by simp) rfl ?_
 have Re:∀(i:Nat) (q:Pd),p.l[i]? =some q->IntKind.i64.wrap ((i:Int)+1)=(i:Int)+1:=fun i q h=>Zo (by have:=(a7y.1 h).1;omega)
 cases b
 all_goals
  simp-dsimp[c3N,Pd.Z4,hf];refine TB (hdo p st) rfl (by simp) (by simp[Pd.Z4]) (by simp[Pd.Z4]) (by simp) (by simp) (by simp) (by simp) ?_;simp-dsimp
 ·refine YZ [2] [5] p.l.length (fun i=>⟨[(12,vi i),(11,vi p.l.length),(10, .iv (.Z6 9 (p.l.map Pd.cells))),(1, .fn f [] [.ptr 1000 0])],[(1000, .box ((cs (Pd.Xs F (p.l.take i) (F p st))).map .iv))]⟩)
   (fun _=>True) ?_ trivial ?_
  ·simp-dsimp[Pd.Qu]
  ·intro i hi _;simp-dsimp[Nh];refine⟨fun ZV=>?_,fun X3=>?_⟩
   ·obtain⟨q,Wa⟩:=Zw ZV;simp-dsimp[Wa,Pd.Z8 q];refine TB (ih q (a8y Wa) (Pd.Xs F (p.l.take i) (F p st))) rfl (by simp) (by simp[Pd.Z4]) (by simp[Pd.Z4]) (by simp) (by simp) (by simp) (by simp) ?_;simp-dsimp[ZV,Re i q Wa,Pd.Us F _ Wa]
   ·simp-dsimp[Pd.fold_eq,a2B X3]
 ·refine YZ [2] [5] p.l.length (fun i=>⟨[(12,vi i),(11,vi p.l.length),(10, .iv (.Z6 9 (p.l.map Pd.cells))),(1, .fn f [.ptr 1000 0] [])],[(1000, .box ((cs (Pd.Xs F (p.l.take i) (F p st))).map .iv))]⟩)
   (fun _=>True) ?_ trivial ?_
  ·simp-dsimp[Pd.Qu]
  ·intro i hi _;simp-dsimp[Nh];refine⟨fun ZV=>?_,fun X3=>?_⟩
   ·obtain⟨q,Wa⟩:=Zw ZV;simp-dsimp[Wa,Pd.Z8 q];refine TB (ih q (a8y Wa) (Pd.Xs F (p.l.take i) (F p st))) rfl (by simp) (by simp[Pd.Z4]) (by simp[Pd.Z4]) (by simp) (by simp) (by simp) (by simp) ?_;simp-dsimp[ZV,Re i q Wa,Pd.Us F _ Wa]
   ·simp-dsimp[Pd.fold_eq,a2B X3]
theorem b4Q(p:Pd)(n:Int):ZU prog false Ov [p.av, .ptr 1000 0] [(1000, .box [vi n])] (.Zp []) [(1000, .box [vi (IntKind.i64.wrap (n+1))])]:=by
 refine sc oM (by simp) (by decide) (by simp) rfl ?_;simp-dsimp[a3i,Pd.Z4]
def b5Q(_:Pd)(n:Int):Int:=IntKind.i64.wrap (n+1)
mutual
theorem b6Q:∀(p:Pd) (n:Int),p.fold b5Q (IntKind.i64.wrap n)=IntKind.i64.wrap (n+p.size)
 | .mk o c v w l,n=>by
  rw[Pd.fold,b5Q,d9Y,b7Q l,Pd.size,c8U]
theorem b7Q:∀(l:List Pd) (n:Int),Pd.Xs b5Q l (IntKind.i64.wrap n)=IntKind.i64.wrap (n+Pd.sizes l)
 | [],n=>by rw[Pd.Xs,Pd.sizes,Int.add_zero]
 |p::r,n=>by rw[Pd.Xs,b6Q p,b7Q r,Pd.sizes,c8U]
end
theorem b8Q{p:Pd}(h:p.Ok):ZU prog true HB [p.av] [] (vi (IntKind.i64.wrap p.size)) []:=by
 refine YD oL (by simp) (by decide) rfl ?_;have he:=b3Q Ov false b5Q (fun n:Int=>[ci n]) (by kernel_rfl) (fun p n=>b4Q p n) h 0;rw[Pd.Z4]at he
 have hr:ZU prog false RT [p.av, .fn Ov [] [.ptr 3 0]] [(3, .box [vi 0])] (.Zp []) [(3, .box [vi (p.fold b5Q 0)])]:=by
  rw[Pd.Z4];exact he.Zk (Ren.WD [(1000,3)]) rfl
 have hc:p.fold b5Q 0=IntKind.i64.wrap p.size:=by
  have:=b6Q p 0;rwa [Int.zero_add,show IntKind.i64.wrap 0=0 from rfl]at this
 simp-dsimp[a8h,Pd.Z4];refine TB hr rfl (by simp) (by simp[Pd.Z4]) (by simp[Pd.Z4]) (by simp) (by simp) (by simp) (by simp) ?_;simp-dsimp[hc]
def JB(t:Tb)(i:Int)(v:Vl):Prop:=0<=i/\i<t.length/\t[i.toNat]? =some v.text/\v.right=true
theorem b0R{t:Tb}{k:Nat}{v:Vl}{c:Bool}(hc:t[k]? =some c):JB t k v↔v.text=c/\v.right=true:=by
 have hk:=(a7y.1 hc).1;unfold JB;rw[show(k:Int).toNat=k from rfl,hc];constructor
 ·rintro⟨_,_,h,h2⟩;cases h;exact⟨rfl,h2⟩
 ·rintro⟨h,h2⟩;exact⟨by omega,by omega,by rw[h],h2⟩
theorem b1R(t:Tb)(w:Bool)(i:Int)(v:Vl):ZU prog true Ow [.iv (.pt [Wr t,cb w]),vi i,v.av] [] (vb (Yp (JB t i v))) []:=by
 refine YD oK (by simp) (by decide) rfl ?_;simp-dsimp[GM,Wr];refine⟨fun h1=>⟨fun h2=>⟨h1,?_⟩,fun h2 h=>by have:=h.2.1;omega⟩,fun h1 h=>by have:=h.1;omega⟩;obtain⟨k,rfl⟩:=Int.eq_ofNat_of_zero_le h1;obtain⟨c,hc⟩:∃c,t[k]? =some c:=Zw (by omega);simp-dsimp[hc];refine⟨fun h3=>Zu (e8b v) (by simp) rfl ?_,fun h3=>?_⟩
 ·simp-dsimp[Tz,b0R hc,h3]
 ·simp-dsimp[b0R hc,h3]
def TV(t:Tb)(p:Pd):Prop:=
 if p.op=1\/p.op=2 then p.l.length=0
 else if 3<=p.op/\p.op<=8 then p.l.length=0/\JB t p.col p.v
 else if p.op=9 then p.l.length=0/\JB t p.col p.v/\JB t p.col p.w
 else if p.op=10 then p.l.length=1
 else if p.op=11\/p.op=12 then 0<p.l.length
 else False
theorem b3R(t:Tb)(p:Pd)(w:Bool):ZU prog false Oy [.ptr 1000 0,p.av] [(1000, .box [.iv (Wr t),vb w])] (.Zp []) [(1000, .box [.iv (Wr t),vb (w|| !Yp (TV t p))])]:=by
 refine sc oJ (by simp) (by decide) (by simp) rfl ?_
 have NR:(p.op=1\/p.op=2)\/(p.op=3\/p.op=4\/p.op=5\/p.op=6\/p.op=7\/p.op=8)\/p.op=9\/p.op=10\/(p.op=11\/p.op=12)\/(p.op<1\/12<p.op):=by omega
 have Sb:((p.l.length:Int)==0)=Yp (p.l.length=0):=by rw[Tz,beq_iff_eq];omega
 have oI:((p.l.length:Int)==1)=Yp (p.l.length=1):=by rw[Tz,beq_iff_eq];omega
 have oH:(decide (0<(p.l.length:Int)))=Yp (0<p.l.length):=by rw[Tz,decide_eq_true_eq];omega
 rcases NR with h|h|h|h|h|h
 ·have e:TV t p↔p.l.length=0:=by unfold TV;rw[if_pos h]
  rcases h with h|h<;>simp-dsimp[WL,Pd.Z4,h,Sb,e]<;>cases w<;>simp
 ·have e:TV t p↔p.l.length=0/\JB t p.col p.v:=by
   unfold TV;rw[if_neg (by omega),if_pos (by omega)]
  rcases h with h|h|h|h|h|h
  all_goals
   simp-dsimp[WL,Pd.Z4,h,Sb,e];refine⟨fun h0=>?_,fun h0=>?_⟩
   ·refine Zu (b1R t w p.col p.v) (by simp) (by simp) ?_;simp-dsimp[h0]
    cases w<;>simp
   ·simp-dsimp[h0]
    try (cases w<;>simp)
 ·have e:TV t p↔p.l.length=0/\JB t p.col p.v/\JB t p.col p.w:=by
   unfold TV;rw[if_neg (by omega),if_neg (by omega),if_pos (by omega)]
  simp-dsimp[WL,Pd.Z4,h,Sb,e];refine⟨fun h0=>?_,fun h0=>?_⟩
  ·refine Zu (b1R t w p.col p.v) (by simp) (by simp) ?_;simp-dsimp;refine⟨fun h1=>?_,fun h1=>?_⟩
   ·refine Zu (b1R t w p.col p.w) (by simp) (by simp) ?_;simp-dsimp[h0,h1]
    cases w<;>simp
   ·simp-dsimp[h0,h1]
    try (cases w<;>simp)
  ·simp-dsimp[h0]
   try (cases w<;>simp)
 ·have e:TV t p↔p.l.length=1:=by
   unfold TV;rw[if_neg (by omega),if_neg (by omega),if_neg (by omega),if_pos h]
  simp-dsimp[WL,Pd.Z4,h,oI,e]
  cases w<;>simp
 ·have e:TV t p↔0<p.l.length:=by
   unfold TV;rw[if_neg (by omega),if_neg (by omega),if_neg (by omega),if_neg (by omega),if_pos h]
  rcases h with h|h<;>simp-dsimp[WL,Pd.Z4,h,oH,e]<;>cases w<;>simp[Tz]
 ·have e:¬TV t p:=by
   unfold TV;rw[if_neg (by omega),if_neg (by omega),if_neg (by omega),if_neg (by omega),if_neg (by omega)];exact id
  have ne:∀k:Int,1<=k->k<=12->(p.op==k)=false:=fun k h1 h2=>by rw[beq_eq_false_iff_ne];omega
  simp-dsimp[WL,Pd.Z4,e,ne]
mutual
def Pd.VH(t:Tb):Pd->Prop
 | .mk o c v w l=>TV t (.mk o c v w l)/\Pd.VS t l
def Pd.VS(t:Tb):List Pd->Prop
 | []=>True
 |p::r=>p.VH t/\Pd.VS t r
end
noncomputable def b4R(t:Tb)(p:Pd)(w:Bool):Bool:=w|| !Yp (TV t p)
mutual
theorem b5R(t:Tb):∀(p:Pd) (w:Bool),p.fold (b4R t) w=(w|| !Yp (p.VH t))
 | .mk o c v w l,b=>by
  rw[Pd.fold,b4R,b6R t l,Pd.VH,b3S];simp only[b6L,b9O,NG]
  grind
theorem b6R(t:Tb):∀(l:List Pd) (w:Bool),Pd.Xs (b4R t) l w=(w|| !Yp (Pd.VS t l))
 | [],b=>by rw[Pd.Xs,Pd.VS];cases b<;>simp
 |p::r,b=>by
  rw[Pd.Xs,b5R t p,b6R t r,Pd.VS,b3S];simp only[b6L,b9O,NG]
  grind
end
def P6(t:Tb)(p:Pd):Prop:=WQ t/\IntKind.i64.wrap p.size<=15/\p.VH t
noncomputable def b7R(t:Tb)(p:Pd):Int:=if Yp (WQ t)=true then(if Yp (P6 t p)=true then 0 else 30)else 1
@[simp]theorem b8R(t:Tb)(p:Pd):(b7R t p != 0)= !Yp (P6 t p):=by
 unfold b7R
 by_cases h:WQ t
 ·rw[if_pos (Rn.2 h)];cases Yp (P6 t p)<;>rfl
 ·rw[if_neg (by simpa using h)]
  have:Yp (P6 t p)=false:=NG.2 fun g=>h g.1
  rw[this];rfl
theorem b9R(t:Tb){p:Pd}(h:p.Ok):ZU prog true HE [YS t,p.av] [] (vi (b7R t p)) []:=by
 refine YD oG (by simp) (by decide) rfl ?_;have he:=b3Q Oy true (b4R t) (fun w:Bool=>[Wr t,cb w]) (by kernel_rfl) (fun p w=>b3R t p w) h false;rw[Pd.Z4]at he
 have hr:ZU prog false RT [p.av, .fn Oy [.ptr 15 0] []] [(15, .box [.iv (Wr t),vb false])] (.Zp []) [(15, .box [.iv (Wr t),vb (p.fold (b4R t) false)])]:=by
  rw[Pd.Z4];exact he.Zk (Ren.WD [(1000,15)]) rfl
 rw[b5R,Bool.false_or]at hr;simp-dsimp[a2g,Pd.Z4,YS];refine Zu (e4c t) (by simp[YS]) (by simp[YS]) ?_;simp-dsimp;refine⟨fun h1=>?_,fun h1=>?_⟩
 ·simp[b7R,EO,h1]
 ·refine TB hr rfl (by simp) (by simp[Pd.Z4]) (by simp[Pd.Z4]) (by simp) (by simp) (by simp) (by simp) ?_;simp-dsimp;refine⟨fun h2=>?_,fun h2=>?_⟩
  ·refine Zu (b8Q h) (by simp[Pd.Z4]) (by simp[Pd.Z4]) ?_;simp-dsimp;rw[b7R,if_pos (Rn.2 h1)];refine⟨fun h3=>?_,fun h3=>?_⟩
   ·rw[if_neg (by simp only[Rn];intro g;have:=g.2.1;omega)]
   ·rw[if_pos (by simp only[Rn];exact⟨h1,h3,h2⟩)]
  ·rw[b7R,if_pos (Rn.2 h1),if_neg (by simp only[Rn];intro g;exact h2 g.2.2)]
theorem pU{h:Hs}(ZY:h.Ok)(a:Nat)(txn table:Int)(k:Vl):ZU prog true Wz [h.av,vi a,vi txn,vi table,k.av] [] (vi (Yo (h.events.take a) txn table k)) []:=by
 refine YD pT (by simp) (by decide) rfl ?_;simp-dsimp[a4b,Hs.av]
 refine YZ [] [13] (min a h.events.length) (fun i=>⟨[(12,vi i),(11,vi (Yo (h.events.take i) txn table k)),(1,vi a),(2,vi txn),(3,vi table),(5, .ptr 5 0),(9, .ptr 9 0)],
  [(9, .box [.iv (cb k.text), .iv (ci k.n), .iv (.v (.string k.s))]),(5, .box [.iv (.Z6 1 (Zd h.tables)), .iv (.Z6 22 (Zi h.events)), .iv (.Z6 5 (Zh h.order))])]⟩)
  (fun _=>True) ?_ trivial ?_
 ·simp-dsimp[Yo]
 ·intro i hi _;have XS:=ZY.events;simp-dsimp[Hm];refine⟨fun h1=>⟨fun h2=>?_,fun h2=>?_⟩,fun h1=>?_⟩
  ·obtain⟨e,he⟩:=Zw h2;have hw:=Zo (n:=(i:Int)+1) (by omega);have E4:=Zo (n:=(Yo (h.events.take i) txn table k:Int)+1) (by have:=d7P (h.events.take i) txn table k;rw[a7S]at this;omega)
   have hn:=d6P he txn table k
   have VZ:i<min a h.events.length:=by omega
   simp only[Ev.Yw]at hn;simp-dsimp[he];rw[hw,E4,hn]
   grind
  ·rw[show h.events.take a=h.events.take i from by rw[a2B (by omega),a2B h2]]
  ·rw[show i=a from by omega]
def Ev.ends(txn:Int)(e:Ev):Prop:=e.txn=txn/\(e.kind=5\/e.kind=6)
instance (txn:Int) (e:Ev):Decidable (e.ends txn):=by unfold Ev.ends;exact inferInstance
def W6:List Ev->Int->Int
 | [],_=>0
 |e::r,txn=>if e.ends txn then e.kind else W6 r txn
theorem b6j:∀{es:List Ev} {txn:Int},(∀e,e∈es->¬e.ends txn)->W6 es txn=0
 | [],_,_=>rfl
 |e::r,txn,h=>by rw[W6,if_neg (h e a8C)];exact b6j fun x hx=>h x (a2C _ hx)
theorem b7j:∀{es:List Ev} {i:Nat} {e:Ev} {txn:Int},(∀j,j<i->∀x,es[j]? =some x->¬x.ends txn)->es[i]? =some e->e.ends txn->W6 es txn=e.kind
 | [],i,e,txn,_,h,_=>by cases h
 |x::r,0,e,txn,_,h,he=>by simp only[a9E,a5y]at h;subst h;rw[W6,if_pos he]
 |x::r,i+1,e,txn,hn,h,he=>by
  rw[W6,if_neg (hn 0 (by omega) x rfl)];exact b7j (i:=i) (fun j hj y hy=>hn (j+1) (by omega) y (by simpa using hy)) (by simpa using h) he
theorem b8j{h:Hs}(ZY:h.Ok)(txn:Int):ZU prog true HZ [h.av,vi txn] [] (vi (W6 h.events txn)) []:=by
 refine YD pS (by simp) (by decide) rfl ?_;simp-dsimp[a5b,Hs.av]
 refine YZ [] [6] h.events.length (fun i=>⟨[(5,vi i),(1,vi txn),(2, .ptr 2 0)],[(2, .box [.iv (.Z6 1 (Zd h.tables)), .iv (.Z6 22 (Zi h.events)), .iv (.Z6 5 (Zh h.order))])]⟩)
  (fun i=>ZH i fun j=>∀e,h.events[j]? =some e->¬e.ends txn) ?_ ?_ ?_
 ·simp-dsimp
 ·simp
 ·intro i hi hq;have XS:=ZY.events;simp-dsimp[Hl];refine⟨fun h2=>?_,fun h2=>?_⟩
  ·obtain⟨e,he⟩:=Zw h2;have hw:=Zo (n:=(i:Int)+1) (by omega)
   have hS:(e.txn=txn/\(e.kind=5\/e.kind=6))->e.kind=W6 h.events txn:=fun hh=>(b7j (i:=i) (fun j hj=>hq j hj) he hh).symm
   have hN:¬(e.txn=txn/\(e.kind=5\/e.kind=6))->ZH (i+1) fun j=>∀e,h.events[j]? =some e->¬e.ends txn:=fun hn=>hq.succ fun x hx=>by rw[he]at hx;cases hx;exact hn
   simp-dsimp[he];rw[hw]
   grind
  ·exact(b6j fun e he=>by
    obtain⟨j,hj⟩:=a9B he
    exact hq j (Nat.lt_of_lt_of_le (a7y.1 hj).1 h2) e hj).symm
def SE(h:Hs)(table:Int)(k:Vl):Prop:=0<=table/\∃t,h.tables[table.toNat]? =some t/\k.right=true/\t[0]? =some k.text
def Hs.WS(h:Hs):Prop:=∀t,t∈h.tables->WQ t
def LA(es:List Ev)(table:Int)(k:Vl)(v:Vs):Prop:=1<=v.n/\v.n<=Yo es v.txn table k
def Ig(h:Hs)(es:List Ev)(e:Ev):Prop:=SE h e.table e.key/\e.n=Yo es e.txn e.table e.key+1/\(e.row=[]\/∃t,h.tables[e.table.toNat]? =some t/\Fits t e.row/\e.row[0]? =some e.key)
def JD(h:Hs)(es:List Ev)(e:Ev):Prop:=SE h e.table e.key∧
 if 0<Yo es e.txn e.table e.key then e.ZX=⟨e.txn,Yo es e.txn e.table e.key⟩else e.ZX=⟨0,0⟩\/LA es e.table e.key e.ZX
def Np(h:Hs)(es:List Ev)(e:Ev)(i:Nat):Prop:=∀r,e.refs[i]? =some r->SE h e.table r.key/\LA es e.table r.key r.ZX/\(∀q,0<i->e.refs[i-1]? =some q->q.key.cmp r.key<0)
def d5v(es:List Ev)(e:Ev)(x:Ev):Prop:=x.kind=3->x.txn=e.txn->x.table=e.table->∃r,r∈e.refs/\r.key=x.key/\r.ZX=⟨e.txn,Yo es e.txn e.table x.key⟩
def d6v(h:Hs)(es:List Ev)(e:Ev):Prop:=(0<=e.table/\∃t,h.tables[e.table.toNat]? =some t/\P6 t e.pred)/\ZH e.refs.length (Np h es e)/\∀x,x∈es->d5v es e x
def IG(l:List Rf)(k:Vl)(v:Vs):Prop:=∃r,r∈l/\r.key=k/\r.ZX=v
@[simp]theorem d8v{k:Vl}{v:Vs}:IG [] k v↔False:=by unfold IG;simp
theorem d9v{l:List Rf}{q:Rf}{k:Vl}{v:Vs}:IG (l++[q]) k v↔IG l k v\/((q.key.text=k.text/\q.key.n=k.n/\q.key.s=k.s)/\q.ZX.txn=v.txn/\q.ZX.n=v.n):=by
 unfold IG;rw[<-Vl.eq_iff, <-Vs.eq_iff];constructor
 ·rintro⟨r,hr,g⟩
  rcases a1E.1 hr with hr|hr
  ·exact .inl ⟨r,hr,g⟩
  ·simp only[a2z]at hr;subst hr;exact .inr g
 ·rintro(⟨r,hr,g⟩|g)
  ·exact⟨r,List.mem_append_left _ hr,g⟩
  ·exact⟨q,by simp,g⟩
def Nk(h:Hs)(es:List Ev)(e:Ev):Prop:=GR es e/\(e.kind=2->JD h es e)/\(e.kind=3->Ig h es e)/\(e.kind=4->d6v h es e)
theorem b2P{h:Hs}(ZY:h.Ok)(txn:Int):ZU prog true UL [h.av,vi txn] [] (vb (decide (W6 h.events txn=5))) []:=by
 refine YD oS (by simp) (by decide) rfl ?_;simp-dsimp[a3a,Hs.av];refine Zu (b8j ZY txn) (by simp[Hs.av]) (by simp[Hs.av]) ?_;simp-dsimp;rfl
def Ins.Tk(table:Int)(k:Vl)(o:Ins):Prop:=o.table=table/\o.key=k
def DZ(h:Hs)(e:Ev):Prop:=e.kind=3->W6 h.events e.txn=5->∃o,o∈h.order/\o.Tk e.table e.key/\e.txn∈o.ZW
def GQ(h:Hs)(a:Nat)(o:Ins):Prop:=(∀x,x∈h.order.take a->¬x.Tk o.table o.key)∧
 (ZH o.ZW.length fun i=>∀t,o.ZW[i]? =some t->W6 h.events t=5/\Yo h.events t o.table o.key≠0/\t∉o.ZW.take i)/\0<o.ZW.length
def oR(h:Hs):Prop:=(1<=h.tables.length/\h.tables.length<=3)/\h.WS
def YP(h:Hs):Prop:=oR h/\(ZH h.events.length fun i=>∀e,h.events[i]? =some e->Nk h (h.events.take i) e/\DZ h e)/\ZH h.order.length fun i=>∀o,h.order[i]? =some o->GQ h i o
mutual
def Pd.Flat(d:Int):Pd->Prop
 | .mk o c v w l=>d<=6/\l.length<=6/\Pd.Ru (d+1) l/\IntKind.i64.wrap (Pd.size (.mk o c v w l))<=30
def Pd.Ru(d:Int):List Pd->Prop
 | []=>True
 |p::r=>p.Flat d/\Pd.Ru d r
end
theorem Pd.Sg(d:Int)(p:Pd):p.Flat d↔d<=6/\p.l.length<=6/\Pd.Ru (d+1) p.l/\IntKind.i64.wrap p.size<=30:=by cases p;rw[Pd.Flat];rfl
theorem Pd.Tf(d:Int):∀l:List Pd,Pd.Ru d l↔∀p,p∈l->p.Flat d
 | []=>by simp[Pd.Ru]
 |p::r=>by simp[Pd.Ru,Pd.Tf d r]
theorem d4r{p:Pd}(h:p.Ok):∀d:Int,0<=d->ZU prog true Mk [p.av,vi d] [] (vb (Yp (p.Flat d))) []:=by
 induction h with
 |mk p hl hv hw hq ih=>
 intro d hd;refine YD gn (by simp) (by decide) rfl ?_
 by_cases h1:d<=6
 ·by_cases h2:p.l.length<=6
  ·have n1:¬6<d:=by omega
   have n2:¬(6:Int)<p.l.length:=by omega
   simp-dsimp[c0M,Pd.Z4,n1,n2];refine YZ [] [] p.l.length (fun i=>⟨[(5,vi i),(1,vi d),(2, .ptr 2 0)],[(2,p.box)]⟩) (fun i=>ZH i fun j=>∀q,p.l[j]? =some q->q.Flat (d+1)) ?_ ?_ ?_
   ·simp-dsimp[Pd.box]
   ·exact Tn
   ·intro i hi hqq;simp-dsimp[Gg,Pd.box];refine⟨fun ZV=>?_,fun X3=>?_⟩
    ·obtain⟨q,Wa⟩:=Zw ZV;have hw:=Zo (n:=(i:Int)+1) (by omega);have hwd:=Zo (n:=d+1) (by omega);simp-dsimp[Wa,Pd.Z8 q,hwd];refine Zu (ih q (a8y Wa) (d+1) (by omega)) (by simp[Pd.Z4]) (by simp[Pd.Z4]) ?_;simp-dsimp[hw]
     exact⟨fun g g2=>g ((Pd.Tf _ _).1 ((Pd.Sg d p).1 g2).2.2.1 q (a8y Wa)),fun g=>⟨ZV,hqq.succ fun q' V0=>by rw[Wa]at V0;cases V0;exact g⟩⟩
    ·have Zt:Pd.Ru (d+1) p.l:=(Pd.Tf _ _).2 fun q hqm=>by
      obtain⟨j,hj⟩:=a9B hqm;exact hqq j (by have:=(a7y.1 hj).1;omega) q hj
     refine Zu (b2Q (.mk p hl hv hw hq)) (by simp[Pd.Z4]) (by simp[Pd.Z4]) ?_;simp-dsimp[d9P,Pd.Sg d p,h1,h2,Zt]
  ·have n1:¬6<d:=by omega
   have n2:(6:Int)<p.l.length:=by omega
   simp-dsimp[c0M,Pd.Z4,n1,n2]
   exact fun g=>h2 ((Pd.Sg d p).1 g).2.1
 ·have n1:6<d:=by omega
  simp-dsimp[c0M,Pd.Z4,n1]
  exact fun g=>h1 ((Pd.Sg d p).1 g).1
structure Ph (e:Ev):Prop where
 refs:e.refs.length<=12
 row:e.row.length<=12
 flat:e.pred.Flat 0
structure Y8 (h:Hs):Prop where
 tables:h.tables.length<=6
 events:h.events.length<=60
 order:h.order.length<=30
 ev:ZH h.events.length fun i=>∀e,h.events[i]? =some e->Ph e
 ZW:ZH h.order.length fun i=>∀o,h.order[i]? =some o->o.ZW.length<=20
theorem d5r{h:Hs}(ZY:h.Ok):ZU prog true VL [h.av] [] (vb (Yp (Y8 h))) []:=by
 refine YD iJ (by simp) (by decide) rfl ?_
 by_cases h1:h.tables.length<=6
 ·by_cases h2:h.events.length<=60
  ·by_cases h3:h.order.length<=30
   ·have n1:¬(6:Int)<h.tables.length:=by omega
    have n2:¬(60:Int)<h.events.length:=by omega
    have n3:¬(30:Int)<h.order.length:=by omega
    simp-dsimp[a0a,Hs.av,n1,n2,n3]
    refine YZ [] [4] h.events.length (fun i=>⟨[(3,vi i),(1, .ptr 1 0)],[(1, .box [.iv (.Z6 1 (Zd h.tables)), .iv (.Z6 22 (Zi h.events)), .iv (.Z6 5 (Zh h.order))])]⟩)
     (fun i=>ZH i fun i=>∀e,h.events[i]? =some e->Ph e) ?_ ?_ ?_
    ·simp-dsimp
    ·exact Tn
    ·intro i hi hq;simp-dsimp[Gh];refine⟨fun ZV=>?_,fun X3=>?_⟩
     ·obtain⟨e,he⟩:=Zw ZV;have hw:=Zo (n:=(i:Int)+1) (by omega)
      have Y6:¬Ph e->¬Y8 h:=fun g g2=>g (g2.ev i ZV e he)
      have XR:=ZY.ev e (a8y he)
      by_cases e1:e.refs.length<=12
      ·by_cases e2:e.row.length<=12
       ·have m1:¬(12:Int)<e.refs.length:=by omega
        have m2:¬(12:Int)<e.row.length:=by omega
        simp-dsimp[he,m1,m2];refine Zu (d4r XR.pred 0 (by omega)) (by simp[Pd.av]) (by simp[Pd.av]) ?_;simp-dsimp[hw];exact⟨fun g=>Y6 fun g2=>g g2.flat,fun g=>⟨ZV,hq.succ fun e' Xr=>by rw[he]at Xr;cases Xr;exact⟨e1,e2,g⟩⟩⟩
       ·have m1:¬(12:Int)<e.refs.length:=by omega
        have m2:(12:Int)<e.row.length:=by omega
        simp-dsimp[he,m1,m2]
        exact Y6 fun g=>e2 g.row
      ·have m1:(12:Int)<e.refs.length:=by omega
       simp-dsimp[he,m1]
       exact Y6 fun g=>e1 g.refs
     ·refine YZ [] [] h.order.length (fun i=>⟨[(5,vi i),(1, .ptr 1 0)],[(1, .box [.iv (.Z6 1 (Zd h.tables)), .iv (.Z6 22 (Zi h.events)), .iv (.Z6 5 (Zh h.order))])]⟩)
       (fun i=>ZH i fun i=>∀o,h.order[i]? =some o->o.ZW.length<=20) ?_ ?_ ?_
      ·simp-dsimp
      ·exact Tn
      ·intro j hj JC;simp-dsimp[KI];refine⟨fun Xk=>?_,fun P4=>?_⟩
       ·obtain⟨o,ho⟩:=Zw Xk;have hw:=Zo (n:=(j:Int)+1) (by omega);simp-dsimp[ho,Ins.Z8 o,hw];refine⟨fun g g2=>?_,fun g=>⟨Xk,JC.succ fun o' XQ=>by rw[ho]at XQ;cases XQ;omega⟩⟩;have:=g2.ZW j Xk o ho;omega
       ·exact⟨h1,h2,h3,fun k hk=>hq k (by omega),fun k hk=>JC k (by omega)⟩
   ·have n1:¬(6:Int)<h.tables.length:=by omega
    have n2:¬(60:Int)<h.events.length:=by omega
    have n3:(30:Int)<h.order.length:=by omega
    simp-dsimp[a0a,Hs.av,n1,n2,n3]
    exact fun g=>h3 g.order
  ·have n1:¬(6:Int)<h.tables.length:=by omega
   have n2:(60:Int)<h.events.length:=by omega
   simp-dsimp[a0a,Hs.av,n1,n2]
   exact fun g=>h2 g.events
 ·have n1:(6:Int)<h.tables.length:=by omega
  simp-dsimp[a0a,Hs.av,n1]
  exact fun g=>h1 g.tables
end Go.Rt
end
