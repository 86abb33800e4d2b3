/- Contracts of functions of the program, and what they lean on. Conditions: those of each theorem. -/
import Derived.Test.YthkdpdpgmhmgoaaGreatSpMQc
import Derived.Test.YthkdpdpgmhmgoaaGreatSpMF

set_option linter.unusedVariables false
set_option linter.unusedSimpArgs false
set_option maxHeartbeats 64000000
set_option maxRecDepth 100000
open List renaming cons_append->b4O,nil_append->b3H,take_length->a6J,mem_of_getElem?->a6y

section
namespace Go.Rt
open Go.Vm
def DT(h:Hs)(es:List Ev):Ob:= .box [.iv (.Z6 1 (Za h.tables)),if es=[]then .nil 22 else .sl 69 22 0 es.length, .iv (.Z6 5 (Zi h.order))]
def dEs(es:List Ev):Hp:=if es=[]then[]else[(69, .list 22 (ZB es))]
abbrev DS(h:Hs):Ob:= .box [.iv (.Z6 1 (Za h.tables)), .iv (.Z6 22 (ZB h.events)), .iv (.Z6 5 (Zi h.order))]
theorem d0R(h:Hs):DT h []= .box [.iv (.Z6 1 (Za h.tables)), .nil 22, .iv (.Z6 5 (Zi h.order))]:=rfl
theorem nr{h:Hs}{es:List Ev}(he:es≠[]):DT h es= .box [.iv (.Z6 1 (Za h.tables)), .sl 69 22 0 es.length, .iv (.Z6 5 (Zi h.order))]:=by unfold DT;rw[if_neg he]
theorem d2R:dEs []=[]:=rfl
theorem nq{es:List Ev}(he:es≠[]):dEs es=[(69, .list 22 (ZB es))]:=if_neg he
theorem d4R{h:Hs}(ZY:h.Ok)(Xs:h.Rg)(txn level:Int):ZX prog true oJ [h.av,vi txn,vi level] [] (vb true) []:=by
 refine YG jP (by simp[Hs.av]) (by decide) rfl ?_;simp-dsimp[a1r,Hs.av];refine ZN c3r (by simp) (by simp) ?_;simp-dsimp;refine ZN (d7m ZY) (by simp[Hs.av]) (by simp[Hs.av]) ?_
 by_cases hs:YM h
 ·have YD:Y7 (
   YM h)=true:=UQ.2 hs
  have hm:=d4g hs;have hel:=hs.events;simp-dsimp[YD];refine ZN (mN ZY) (by simp[Hs.av]) (by simp[Hs.av]) ?_
  by_cases hw:Zo h
  ·have M8:Y7 (
    Zo h)=true:=UQ.2 hw
   by_cases h1:level<1
   ·simp-dsimp[M8,h1]
   ·simp-dsimp[M8,h1];have hL:ZX prog true Uy [h.av,vi txn] [] (vi (W6 h.events txn)) []:=b7H ZY txn;rw[<-b5k hw]at hL;refine ZN hL (by simp[Hs.av]) (by simp[Hs.av]) ?_
    by_cases h2:Yb h.events txn<level
    ·simp-dsimp[h2]
    ·simp-dsimp[h2]
     have Sm:1<=level:=by omega
     have Qy:level<=Yb h.events txn:=by omega
     have hf:=Fx txn level;have U7:=c4b hf ZY;have QJ:=c5b hf Xs;have SV:=c6b hf hm;have gM:=CL ZY Xs hm;have gF:=CL U7 QJ SV;have gC:=c4X ZY Xs hm;have gD:=c4X U7 QJ SV;have Y9:=b4C hw Sm Qy;have SD:=b8C (h:=h) Sm Qy;have g1U:=G6 hm Zt;have g2U:=G6 SV Zt
     have hA:(h.Zy (YV txn level)).av= .agg [.iv (.Z6 1 (Za h.tables)), .iv (.Z6 22 (ZB (h.events.map (YV txn level)))), .iv (.Z6 5 (Zi h.order))]:=rfl;refine Vm.Py (b4D _ (id:=9) (cs:=[.iv (.Z6 1 (Za h.tables)), .nil 0, .iv (.Z6 5 (Zi h.order))]) (ds:=[.iv (.Z6 1 (Za h.tables)), .nil 22, .iv (.Z6 5 (Zi h.order))]) (by simp) (by simp)) ?_
     refine YJ [] [11,68] h.events.length (fun i=>⟨[(10,vi i),(9, .ptr 9 0),(3, .ptr 3 0),(2,vi level),(1,vi txn)],
      (9,DT h ((h.events.take i).map (YV txn level)))::dEs ((h.events.take i).map (YV txn level))++[(3,DS h)]⟩) (fun _=>True) ?_ trivial ?_
     ·simp-dsimp[DT,dEs]
     ·intro i hi _
      have G9:((h.events.take i).map (YV txn level)).length<=60:=by rw[List.length_map,List.length_take];omega
      by_cases Z2:i<h.events.length
      ·obtain⟨e,he⟩:=Zr Z2;have Wp:=Zk (n:=(i:Int)+1) (by omega)
       have hd:decide (i<h.events.length)=true:=by simpa using Z2
       have hn:((h.events.take (i+1)).map (YV txn level))=(h.events.take i).map (YV txn level)++[YV txn level e]:=by rw[Qp he,List.map_append];rfl
       rw[hn];clear hA U7 QJ SV gM gF gC gD Y9 SD g1U g2U hn;generalize (h.events.take i).map (YV txn level)=es at*
       by_cases h0:es=[]
       ·subst h0;rw[d0R,d2R,b4O,b3H,b3H]
        by_cases k1:e.kind=1
        ·by_cases k2:e.txn=txn
         ·have hv:YV txn level e={e with level:=level}:=by unfold YV;rw[if_pos ⟨k1,k2⟩]
          simp-dsimp[WJ,he,hd,k1,k2,Wp,nr (h:=h) (es:=[YV txn level e]) (by simp),nq (es:=[YV txn level e]) (by simp),Ev.cells,Pd.Z8,YB];exact⟨Z2,by rw[hv];simp[ZB,Ev.cells,Pd.Z8,k1,k2]⟩
         ·have hv:YV txn level e=e:=by unfold YV;rw[if_neg (fun g=>k2 g.2)]
          simp-dsimp[WJ,he,hd,k1,k2,Wp,hv,nr (h:=h) (es:=[e]) (by simp),nq (es:=[e]) (by simp)];exact⟨Z2,by simp[ZB]⟩
        ·have hv:YV txn level e=e:=by unfold YV;rw[if_neg (fun g=>k1 g.1)]
         simp-dsimp[WJ,he,hd,k1,Wp,hv,nr (h:=h) (es:=[e]) (by simp),nq (es:=[e]) (by simp)];exact⟨Z2,by simp[ZB]⟩
       ·rw[nr h0,nq h0]
        by_cases k1:e.kind=1
        ·by_cases k2:e.txn=txn
         ·have hv:YV txn level e={e with level:=level}:=by unfold YV;rw[if_pos ⟨k1,k2⟩]
          simp-dsimp[WJ,he,hd,k1,k2,Wp,nr (h:=h) (es:=es++[YV txn level e]) (by simp),nq (es:=es++[YV txn level e]) (by simp),Ev.cells,Pd.Z8,YB];exact⟨by omega,by omega,Z2,by rw[hv];simp[ZB,Ev.cells,Pd.Z8,k1,k2]⟩
         ·have hv:YV txn level e=e:=by unfold YV;rw[if_neg (fun g=>k2 g.2)]
          simp-dsimp[WJ,he,hd,k1,k2,Wp,hv,nr (h:=h) (es:=es++[e]) (by simp),nq (es:=es++[e]) (by simp)];exact⟨by omega,by omega,Z2,by simp[ZB]⟩
        ·have hv:YV txn level e=e:=by unfold YV;rw[if_neg (fun g=>k1 g.1)]
         simp-dsimp[WJ,he,hd,k1,Wp,hv,nr (h:=h) (es:=es++[e]) (by simp),nq (es:=es++[e]) (by simp)];exact⟨by omega,by omega,Z2,by simp[ZB]⟩
      ·have VR:i=h.events.length:=by omega
       subst VR;rw[a6J]at G9⊢;have Xr:List.take (h.events.map (YV txn level)).length (ZB (h.events.map (YV txn level)))=ZB (h.events.map (YV txn level)):=List.take_of_length_le (by simp[ZB]);clear U7 QJ SV hf hL M8 YD hs hm hi ZY Xs;generalize XQ h Zt=M at*;generalize XQ (h.Zy (YV txn level)) Zt=F at*
       generalize LJ:h.events.map (YV txn level)=Wg at*;generalize h.Zy (YV txn level)=h' at*
       by_cases h0:Wg=[]
       ·rw[h0,d0R,d2R,b4O,b3H];simp-dsimp[WJ];refine Y6 gM rfl (by simp[Hs.av]) (by simp[Hs.av]) (by simp) (by simp) ?_;simp-dsimp;refine Y6 gF rfl (by simp[hA,h0,ZB]) (by simp[hA,h0,ZB]) (by simp) (by simp) ?_;simp-dsimp
        refine YJ [] [] F.length (fun k=>⟨[(14,vi k),(13, .iv (ZW F)),(12, .iv (ZW M)),(9, .ptr 9 0),(3, .ptr 3 0)],[(9, .box [.iv (.Z6 1 (Za h.tables)), .nil 22, .iv (.Z6 5 (Zi h.order))]),(3,DS h)]⟩) (fun _=>True) ?_ trivial ?_
        ·simp[hA,h0,ZB]
        ·intro k hk _
         by_cases Vy:k<F.length
         ·obtain⟨x,hx⟩:=Zr Vy;have XZ:=Y9 x (a6y hx);have MF:=Zk (n:=(k:Int)+1) (by omega)
          have Co:decide (k<F.length)=true:=by simpa using Vy
          simp-dsimp[TD,ZW,Co];refine YJ [] [] M.length (fun q=>⟨[(16,vi q),(15,vb (decide (x∈M.take q))),(14,vi k),(13, .iv (ZW F)),(12, .iv (ZW M)),(9, .ptr 9 0),(3, .ptr 3 0)],[(9, .box [.iv (.Z6 1 (Za h.tables)), .nil 22, .iv (.Z6 5 (Zi h.order))]),(3,DS h)]⟩) (fun _=>True) ?_ trivial ?_
          ·simp[ZW]
          ·intro q hq _
           by_cases R4:q<M.length
           ·obtain⟨y,hy⟩:=Zr R4;have hwq:=Zk (n:=(q:Int)+1) (by omega)
            have hdq:decide (q<M.length)=true:=by simpa using R4
            have Cl:=b4R (x:=x) hy
            by_cases hm:x∈M.take q
            ·have Iw:x∈M.take (q+1):=Cl.2 (.inl hm);simp-dsimp[WI,ZW,hdq,hm,Iw,hwq];exact R4
            ·by_cases R9:x=y
             ·have Iw:x∈M.take (q+1):=Cl.2 (.inr R9);rw[<-R9]at hy;simp-dsimp[WI,ZW,hdq,Co,hm,Iw,hx,hy,Eg.cells,YB,hwq];exact R4
             ·have Iw:¬x∈M.take (q+1):=fun g=>(Cl.1 g).elim hm R9
              have hx7:¬(y.Z4=x.Z4/\y.to=x.to/\y.kind=x.kind/\y.table=x.table/\y.key.text=x.key.text/\y.key.n=x.key.n/\y.key.s=x.key.s/\y.Zw=x.Zw):=fun g=>R9 (Eg.I3.2 g).symm
              simp-dsimp[WI,ZW,hdq,Co,hm,Iw,hx,hy,Eg.cells,YB,hwq];exact⟨R4,fun a b c d e1 e2 e3 e4=>hx7 ⟨a,b,c,d,e1,e2,e3,e4⟩⟩
           ·obtain rfl:q=M.length:=by omega
            rw[a6J];simp-dsimp[WI,ZW,XZ,MF];exact Vy
         ·obtain rfl:k=F.length:=by omega
          simp-dsimp[TD,ZW];refine ZN gC (by simp[Hs.av]) (by simp[Hs.av]) ?_
          by_cases hc:XO h
          ·rw[UQ.2 hc];simp-dsimp;refine ZN gD (by simp[hA,h0,ZB]) (by simp[hA,h0,ZB]) ?_;rw[UQ.2 (SD hc)];simp-dsimp
          ·rw[U6.2 hc];simp-dsimp
       ·rw[nr h0,nq h0];simp-dsimp[WJ];refine Y6 gM rfl (by simp[Hs.av]) (by simp[Hs.av]) (by simp) (by simp) ?_;simp-dsimp;refine Y6 gF rfl (by simp[hA,Xr]) (by simp[hA,Xr]) (by simp) (by simp) ?_;simp-dsimp
        refine YJ [] [] F.length (fun k=>⟨[(14,vi k),(13, .iv (ZW F)),(12, .iv (ZW M)),(9, .ptr 9 0),(3, .ptr 3 0)],[(9, .box [.iv (.Z6 1 (Za h.tables)), .iv (.Z6 22 (ZB Wg)), .iv (.Z6 5 (Zi h.order))]),(3,DS h)]⟩) (fun _=>True) ?_ trivial ?_
        ·simp[hA,Xr]
        ·intro k hk _
         by_cases Vy:k<F.length
         ·obtain⟨x,hx⟩:=Zr Vy;have XZ:=Y9 x (a6y hx);have MF:=Zk (n:=(k:Int)+1) (by omega)
          have Co:decide (k<F.length)=true:=by simpa using Vy
          simp-dsimp[TD,ZW,Co];refine YJ [] [] M.length (fun q=>⟨[(16,vi q),(15,vb (decide (x∈M.take q))),(14,vi k),(13, .iv (ZW F)),(12, .iv (ZW M)),(9, .ptr 9 0),(3, .ptr 3 0)],[(9, .box [.iv (.Z6 1 (Za h.tables)), .iv (.Z6 22 (ZB Wg)), .iv (.Z6 5 (Zi h.order))]),(3,DS h)]⟩) (fun _=>True) ?_ trivial ?_
          ·simp[ZW]
          ·intro q hq _
           by_cases R4:q<M.length
           ·obtain⟨y,hy⟩:=Zr R4;have hwq:=Zk (n:=(q:Int)+1) (by omega)
            have hdq:decide (q<M.length)=true:=by simpa using R4
            have Cl:=b4R (x:=x) hy
            by_cases hm:x∈M.take q
            ·have Iw:x∈M.take (q+1):=Cl.2 (.inl hm);simp-dsimp[WI,ZW,hdq,hm,Iw,hwq];exact R4
            ·by_cases R9:x=y
             ·have Iw:x∈M.take (q+1):=Cl.2 (.inr R9);rw[<-R9]at hy;simp-dsimp[WI,ZW,hdq,Co,hm,Iw,hx,hy,Eg.cells,YB,hwq];exact R4
             ·have Iw:¬x∈M.take (q+1):=fun g=>(Cl.1 g).elim hm R9
              have hx7:¬(y.Z4=x.Z4/\y.to=x.to/\y.kind=x.kind/\y.table=x.table/\y.key.text=x.key.text/\y.key.n=x.key.n/\y.key.s=x.key.s/\y.Zw=x.Zw):=fun g=>R9 (Eg.I3.2 g).symm
              simp-dsimp[WI,ZW,hdq,Co,hm,Iw,hx,hy,Eg.cells,YB,hwq];exact⟨R4,fun a b c d e1 e2 e3 e4=>hx7 ⟨a,b,c,d,e1,e2,e3,e4⟩⟩
           ·obtain rfl:q=M.length:=by omega
            rw[a6J];simp-dsimp[WI,ZW,XZ,MF];exact Vy
         ·obtain rfl:k=F.length:=by omega
          simp-dsimp[TD,ZW];refine ZN gC (by simp[Hs.av]) (by simp[Hs.av]) ?_
          by_cases hc:XO h
          ·rw[UQ.2 hc];simp-dsimp;refine ZN gD (by simp[hA,Xr]) (by simp[hA,Xr]) ?_;rw[UQ.2 (SD hc)];simp-dsimp
          ·rw[U6.2 hc];simp-dsimp
  ·have G5:Y7 (Zo h)=false:=U6.2 hw;simp-dsimp[G5]
 ·have Oj:Y7 (YM h)=false:=U6.2 hs;simp-dsimp[Oj]
end Go.Rt
end
