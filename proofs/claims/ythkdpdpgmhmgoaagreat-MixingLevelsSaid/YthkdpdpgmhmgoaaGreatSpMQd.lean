/- Contracts of functions of the program, and what they lean on. Conditions: those of each theorem. -/
import Derived.Test.YthkdpdpgmhmgoaaGreatSpMQc
import Derived.Test.YthkdpdpgmhmgoaaGreatSpMF

set_option linter.unusedVariables false
set_option linter.unusedSimpArgs false
set_option maxHeartbeats 64000000
set_option maxRecDepth 100000
open Nat renaming pos_iff_ne_zero->c8D

section
namespace Go.Rt
open Go.Vm
def Si:Bool->Int
 |true=>5
 |false=>1
abbrev f3M(h:Hs):Ob:= .box [.iv (.Z6 1 (Za h.tables)), .iv (.Z6 22 (ZB h.events)), .iv (.Z6 5 (Zi h.order))]
theorem a6C{h:Hs}(ZY:h.Ok)(Xs:h.Rg)(high:Bool):ZX prog true oU [h.av,vb high] [] (vb true) []:=by
 refine YG mP (by simp[Hs.av]) (by decide) rfl ?_;simp-dsimp[a3r,Hs.av];refine ZN c3r (by simp) (by simp) ?_;simp-dsimp;refine ZN (c4r ZY) (by simp[Hs.av]) (by simp[Hs.av]) ?_
 by_cases hs:YM h
 ·by_cases hf:(XS h).length<=14
  ·have YD:(
    Y7 (YM h)&&decide ((XS h).length<=14))=true:=by rw[UQ.2 hs,decide_eq_true hf];rfl
   have hm:=d4g hs;have hel:=hs.events;simp-dsimp[YD]
   refine YJ [] [9,40] h.events.length (fun i=>⟨[(8,vi i),(7, .sl 7 22 0 ((h.events.take i).map (Zn (Si high))).length),(2, .ptr 2 0),(1,vb high)],
    [(7, .list 22 (ZB ((h.events.take i).map (Zn (Si high))))),(2,f3M h)]⟩) (fun _=>True) ?_ trivial ?_
   ·simp[ZB]
   ·intro i hi _
    have G9:((h.events.take i).map (Zn (Si high))).length<=60:=by
     rw[List.length_map,List.length_take];omega
    by_cases Z2:i<h.events.length
    ·obtain⟨e,he⟩:=Zr Z2;have hw:=Zk (n:=(i:Int)+1) (by omega)
     have hd:decide (i<h.events.length)=true:=by simpa using Z2
     rw[Qp he,List.map_append];generalize (h.events.take i).map (Zn (Si high))=es at*
     by_cases k1:e.kind=1
     ·have hv:Zn (Si high) e={e with level:=Si high}:=by unfold Zn;rw[if_pos k1]
      cases high with
      |true=>
       have G8:Zn 5 e={e with level:=5}:=hv;simp-dsimp[TX,he,hd,k1,hw,Si,Ev.cells,Pd.Z8,YB];exact⟨by omega,by omega,Z2,by rw[G8];simp[ZB,Ev.cells,Pd.Z8,k1]⟩
      |false=>
       have G8:Zn 1 e={e with level:=1}:=hv;simp-dsimp[TX,he,hd,k1,hw,Si,Ev.cells,Pd.Z8,YB];exact⟨by omega,by omega,Z2,by rw[G8];simp[ZB,Ev.cells,Pd.Z8,k1]⟩
     ·have hv:Zn (Si high) e=e:=by unfold Zn;rw[if_neg k1]
      simp-dsimp[TX,he,hd,k1,hw,hv];exact⟨by omega,by omega,Z2,by simp[ZB]⟩
    ·have VR:i=h.events.length:=by omega
     subst VR;rw[List.take_length]at G9⊢;have hf:=b6A (Si high);have U7:=c4b hf ZY;have QJ:=c5b hf Xs;have SV:=c6b hf hm;have hA:(h.Zy (Zn (Si high))).av= .agg [.iv (.Z6 1 (Za h.tables)), .iv (.Z6 22 (ZB (h.events.map (Zn (Si high))))), .iv (.Z6 5 (Zi h.order))]:=rfl
     have Xr:List.take (h.events.map (Zn (Si high))).length (ZB (h.events.map (Zn (Si high))))=ZB (h.events.map (Zn (Si high))):=List.take_of_length_le (by simp[ZB])
     have G7:(h.Zy (Zn (Si high))).events.length<2^40:=by have:=SV.1;omega
     have mO:=mN U7;have gC:=c4X U7 QJ SV;have gG:=CL U7 QJ SV;have gS:=d8f U7 QJ SV;have gE:=d1W U7 SV;have g0:=d5p U7 SV;have g1:=d6p U7 SV;have g2:=d7p U7 SV;have gA:=b1n U7 G7 1;have gB:=b2n U7 G7 1;rw[<-b2l]at gA;rw[<-b3l G7]at gB;have f4M:=d3p SV;have sE:=e8s (XS (h.Zy (Zn (Si high)))) (by omega)
     have oT:¬h.events.length<h.events.length:=by omega
     generalize LJ:h.events.map (Zn (Si high))=Wg at*;simp-dsimp[TX];refine ZN mO (by simp[hA,Xr]) (by simp[hA,Xr]) ?_
     by_cases hw:Zo (h.Zy (Zn (Si high)))
     ·have M8:Y7 (Zo (h.Zy (Zn (Si high))))=true:=UQ.2 hw;simp-dsimp[M8]
      cases high with
      |true=>
       rw[show Si true=5 from rfl]at hw gC gG gS gE g1 g2 gA gB sE hA;have SD:=b8B hw;rw[b0B hw]at gG;rw[b1B hw]at gS;clear g0 f4M LJ oT M8 G9 G7 SV QJ U7 hf mO;generalize h.Zy (Zn 5)=h' at*;generalize YF h' 1 (VQ h'.events)=x at*;generalize YF h' 1 (V6 h'.events)=y at*;generalize Zh (XS h') [1,2,3] [1,2,3]=a at*
       generalize Zh (XS h') [4,5] [1,2,3,4,5]=b at*;generalize XS h'=es at*;refine Y6 gG rfl (by simp[hA,Xr]) (by simp[hA,Xr]) (by simp) (by simp) ?_;simp-dsimp;refine Y6 g1 rfl (by simp[hA,Xr]) (by simp[hA,Xr]) (by simp) (by simp) ?_
       by_cases ha:a.length=0
       ·simp-dsimp[ZW,ha];refine Y6 g2 rfl (by simp[hA,Xr]) (by simp[hA,Xr]) (by simp) (by simp) ?_
        by_cases hb:b.length=0
        ·simp-dsimp[ZW,hb];refine ZN gA (by simp[hA,Xr]) (by simp[hA,Xr]) ?_
         by_cases hx:0<=x
         ·have hc:Y7 (XO h')=false:=U6.2 fun g=>by have:=SD.1 g;omega
          rw[hc]at gC;simp-dsimp[ZW,hx];refine Y6 gE rfl (by simp[hA,Xr]) (by simp[hA,Xr]) (by simp) (by simp) ?_;simp-dsimp;refine ZN sE (by simp[ZW]) (by simp) ?_;simp-dsimp;refine Y6 gS rfl (by simp[hA,Xr]) (by simp[hA,Xr]) (by simp) (by simp) ?_;simp-dsimp;refine ZN sE (by simp[ZW]) (by simp) ?_;simp-dsimp;refine ZN gC (by simp[hA,Xr]) (by simp[hA,Xr]) ?_
          simp-dsimp
         ·simp-dsimp[ZW,hx];refine ZN gB (by simp[hA,Xr]) (by simp[hA,Xr]) ?_
          by_cases hy:0<=y
          ·have hc:Y7 (XO h')=false:=U6.2 fun g=>by have:=SD.1 g;omega
           rw[hc]at gC;simp-dsimp[ZW,hy];refine Y6 gE rfl (by simp[hA,Xr]) (by simp[hA,Xr]) (by simp) (by simp) ?_;simp-dsimp;refine ZN sE (by simp[ZW]) (by simp) ?_;simp-dsimp;refine Y6 gS rfl (by simp[hA,Xr]) (by simp[hA,Xr]) (by simp) (by simp) ?_;simp-dsimp;refine ZN sE (by simp[ZW]) (by simp) ?_;simp-dsimp;refine ZN gC (by simp[hA,Xr]) (by simp[hA,Xr]) ?_
           simp-dsimp
          ·have hc:Y7 (XO h')=true:=UQ.2 (SD.2 ⟨ha,hb,by omega,by omega⟩);rw[hc]at gC;simp-dsimp[ZW,hy];refine Y6 gE rfl (by simp[hA,Xr]) (by simp[hA,Xr]) (by simp) (by simp) ?_;simp-dsimp;refine ZN sE (by simp[ZW]) (by simp) ?_;simp-dsimp;refine Y6 gS rfl (by simp[hA,Xr]) (by simp[hA,Xr]) (by simp) (by simp) ?_;simp-dsimp
           refine ZN sE (by simp[ZW]) (by simp) ?_;simp-dsimp;refine ZN gC (by simp[hA,Xr]) (by simp[hA,Xr]) ?_;simp-dsimp
        ·have hc:Y7 (XO h')=false:=U6.2 fun g=>by have:=SD.1 g;omega
         have Ts:(0:Int)<b.length:=by omega
         rw[hc]at gC;simp-dsimp[ZW,hb,Ts,c8D];refine Y6 gE rfl (by simp[hA,Xr]) (by simp[hA,Xr]) (by simp) (by simp) ?_;simp-dsimp;refine ZN sE (by simp[ZW]) (by simp) ?_;simp-dsimp;refine Y6 gS rfl (by simp[hA,Xr]) (by simp[hA,Xr]) (by simp) (by simp) ?_;simp-dsimp;refine ZN sE (by simp[ZW]) (by simp) ?_;simp-dsimp
         refine ZN gC (by simp[hA,Xr]) (by simp[hA,Xr]) ?_;simp-dsimp
       ·have hc:Y7 (XO h')=false:=U6.2 fun g=>by have:=SD.1 g;omega
        have ha0:(0:Int)<a.length:=by omega
        rw[hc]at gC;simp-dsimp[ZW,ha,ha0,c8D];refine Y6 gE rfl (by simp[hA,Xr]) (by simp[hA,Xr]) (by simp) (by simp) ?_;simp-dsimp;refine ZN sE (by simp[ZW]) (by simp) ?_;simp-dsimp;refine Y6 gS rfl (by simp[hA,Xr]) (by simp[hA,Xr]) (by simp) (by simp) ?_;simp-dsimp;refine ZN sE (by simp[ZW]) (by simp) ?_;simp-dsimp
        refine ZN gC (by simp[hA,Xr]) (by simp[hA,Xr]) ?_;simp-dsimp
      |false=>
       rw[show Si false=1 from rfl]at hw gC gG gS g0 hA;have SD:=b0C hw;have g2v:=G6 (c6b (b6A 1) hm) Zt;rw[b2B hw]at gG g2v;rw[b3B hw]at gS
       have hk:∀(i:Nat) (e:Eg),((XS (h.Zy (Zn 1))).filter fun e=>decide (e.kind=1))[i]? =some e->e.kind=1:=fun i e he=>by
        have:=(List.mem_filter.1 (List.mem_of_getElem? he)).2;simpa using this
       clear g1 g2 gA gB gE sE f4M LJ oT M8 G9 G7 SV QJ U7 hf mO;generalize ((XS (h.Zy (Zn 1))).filter fun e=>decide (e.kind=1))=G at*;generalize h.Zy (Zn 1)=h' at*;generalize Zh (XS h') [1] [1]=a at*;refine Y6 gG rfl (by simp[hA,Xr]) (by simp[hA,Xr]) (by simp) (by simp) ?_;simp-dsimp
       refine YJ [] [] G.length (fun i=>⟨[(12,vi i),(10, .iv (ZW G)),(2, .ptr 2 0)],
        [(2, .box [.iv (.Z6 1 (Za h.tables)), .iv (.Z6 22 (ZB Wg)), .iv (.Z6 5 (Zi h.order))])]⟩) (fun _=>True) ?_ trivial ?_
       ·simp[Xr]
       ·intro i hi _
        by_cases Zd:i<G.length
        ·obtain⟨e,he⟩:=Zr Zd;have H4:=Zk (n:=(i:Int)+1) (by omega)
         have DC:decide (i<G.length)=true:=by simpa using Zd
         have hki:=hk i e he;simp-dsimp[PI,ZW,he,Eg.cells,YB,hki,H4,DC];exact Zd
        ·have VR:i=G.length:=by omega
         subst VR;simp-dsimp[PI,ZW];refine Y6 gS rfl (by simp[hA,Xr]) (by simp[hA,Xr]) (by simp) (by simp) ?_;simp-dsimp[ZW];constructor
         all_goals refine ZN gC (by simp[hA,Xr]) (by simp[hA,Xr]) ?_
         all_goals simp-dsimp
         all_goals refine Y6 g0 rfl (by simp[hA,Xr]) (by simp[hA,Xr]) (by simp) (by simp) ?_
         all_goals
          by_cases ha:a.length=0
          ·have hc:Y7 (XO h')=true:=UQ.2 (SD.2 ha);simp-dsimp[ZW,hc,ha]
          ·have hc:Y7 (XO h')=false:=U6.2 fun g=>ha (SD.1 g)
           simp-dsimp[ZW,hc,ha]
     ·have G5:Y7 (Zo (h.Zy (Zn (Si high))))=false:=U6.2 hw
      have hc:Y7 (XO (h.Zy (Zn (Si high))))=false:=U6.2 fun g=>hw g.1
      rw[hc]at gC;simp-dsimp[G5];refine ZN gC (by simp[hA,Xr]) (by simp[hA,Xr]) ?_;simp-dsimp
  ·have Oj:(Y7 (YM h)&&decide ((XS h).length<=14))=false:=by rw[decide_eq_false hf];simp
   simp-dsimp[Oj]
 ·have Oj:(Y7 (YM h)&&decide ((XS h).length<=14))=false:=by rw[U6.2 hs];rfl
  simp-dsimp[Oj]
end Go.Rt
end
