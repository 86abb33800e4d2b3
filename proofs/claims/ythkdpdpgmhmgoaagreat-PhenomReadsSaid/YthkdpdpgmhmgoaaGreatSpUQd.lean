/- Contracts of functions of the program, and what they lean on. Conditions: those of each theorem. -/
import Derived.Test.YthkdpdpgmhmgoaaGreatSpUQa
import Derived.Test.YthkdpdpgmhmgoaaGreatSpUF

set_option linter.unusedVariables false
set_option linter.unusedSimpArgs false
set_option maxHeartbeats 64000000
set_option maxRecDepth 100000
open Classical renaming byContradiction->a9M

section
namespace Go.Rt
open Go.Vm
theorem d8q{h:Hs}(ZY:h.Ok)(Xp:h.Rg):ZU prog true rY [h.av] [] (vb true) []:=by
 refine YD mP (by simp[Hs.av]) (by decide) rfl ?_;simp-dsimp[a8n,Hs.av];refine Zu e7l (by simp) (by simp) ?_;simp-dsimp;refine Zu (d5r ZY) (by simp[Hs.av]) (by simp[Hs.av]) ?_
 by_cases hs:Y8 h
 ·have YL:Yp (Y8 h)=true:=Rn.2 hs;have hm:=qA hs;have g0:=d3u ZY Xp hm;have g1:=d4u ZY Xp hm;have g2:=d2c ZY Xp hm;have g3:=d5u ZY Xp hm;have g4:=d6u ZY Xp hm;have gE:=d4V ZY hm;have hlen:=Fp hm;generalize YV h=es at*;simp-dsimp[YL];refine Yk gE rfl (by simp[Hs.av]) (by simp[Hs.av]) (by simp) (by simp) ?_;simp-dsimp
  refine YZ [] [] es.length (fun i=>⟨[(6,vi i),(5, .iv (Z5 es)),(1, .ptr 1 0)],[(1, .box [.iv (.Z6 1 (Zd h.tables)), .iv (.Z6 22 (Zi h.events)), .iv (.Z6 5 (Zh h.order))])]⟩)
   (fun i=>∀j x,j<i->es[j]? =some x->x.ZX<x.to) ?_ (fun j x hj=>by omega) ?_
  ·simp-dsimp
  ·intro i hi hq
   by_cases Zb:i<es.length
   ·obtain⟨e,he⟩:=Zw Zb;have hw:=Zo (n:=(i:Int)+1) (by omega)
    have hd:decide (i<es.length)=true:=by simpa using Zb
    by_cases hfw:e.ZX<e.to
    ·have hnf:¬e.to<=e.ZX:=by omega
     simp-dsimp[Sn,Z5,he,Eg.cells,Zc,hd,hnf,hw];refine⟨Zb,fun j x hj hx=>?_⟩
     rcases Nat.lt_or_ge j i with h1|h1
     ·exact hq j x h1 hx
     ·have:j=i:=by omega
      subst this;rw[he]at hx;cases hx;exact hfw
    ·have hnf:e.to<=e.ZX:=by omega
     simp-dsimp[Sn,Z5,he,Eg.cells,Zc,hd,hnf,hw]
   ·have Vp:i=es.length:=by omega
    subst Vp
    have Zt:∀e,e∈es->e.ZX<e.to:=fun e he=>by
     obtain⟨j,hj⟩:=List.getElem?_of_mem he;exact hq j e (List.getElem?_eq_some_iff.1 hj).1 hj
    have f9W:Xb es es=[]:=a9M fun g=>by
     obtain⟨e,_,_,h3⟩:=c9s g;rw[h3]at g;exact g (b4m (fun x hx=>Zt x (b8m hx).1) _ _)
    rw[b4m Zt]at g0 g1 g3 g4;rw[f9W]at g2;simp-dsimp[Sn,Z5];refine Yk g0 rfl (by simp[Hs.av]) (by simp[Hs.av]) (by simp) (by simp) ?_;simp-dsimp[Z5,ZR];refine Yk g1 rfl (by simp[Hs.av]) (by simp[Hs.av]) (by simp) (by simp) ?_;simp-dsimp[Z5,ZR];refine Yk g2 rfl (by simp[Hs.av]) (by simp[Hs.av]) (by simp) (by simp) ?_;simp-dsimp[Z5,ZR]
    refine Yk g3 rfl (by simp[Hs.av]) (by simp[Hs.av]) (by simp) (by simp) ?_;simp-dsimp[Z5,ZR];refine Yk g4 rfl (by simp[Hs.av]) (by simp[Hs.av]) (by simp) (by simp) ?_;simp-dsimp[Z5,ZR]
 ·have OW:Yp (Y8 h)=false:=NG.2 hs;simp-dsimp[OW]
theorem d9q{h:Hs}(ZY:h.Ok)(level:Int):ZU prog true rX [h.av,vi level] [] (vb true) []:=by
 refine YD mE (by simp[Hs.av]) (by decide) rfl ?_;simp-dsimp[a9n,Hs.av];refine Zu e7l (by simp) (by simp) ?_;simp-dsimp;refine Zu (d5r ZY) (by simp[Hs.av]) (by simp[Hs.av]) ?_
 by_cases hs:Y8 h
 ·have YL:Yp (Y8 h)=true:=Rn.2 hs
  have XS:h.events.length<2^40:=by have:=(qA hs).1;omega
  have g1:=b1o ZY XS level;have g2:=b2o ZY XS level;have r1:=b9n ZY XS level;have r2:=b0o ZY XS level;rw[<-b1l]at r1;rw[<-b2l XS]at r2;generalize XH h level (Tp h.events)=a at*;generalize XH h level (SX h.events)=b at*;simp-dsimp[YL]
  repeat' first
   |(refine And.intro ?_ ?_)
   |(refine Zu g1 (by simp[Hs.av]) (by simp[Hs.av]) ?_;simp-dsimp)
   |(refine Zu r1 (by simp[Hs.av]) (by simp[Hs.av]) ?_;simp-dsimp)
   |(refine Zu g2 (by simp[Hs.av]) (by simp[Hs.av]) ?_;simp-dsimp)
   |(refine Zu r2 (by simp[Hs.av]) (by simp[Hs.av]) ?_;simp-dsimp)
 ·have OW:Yp (Y8 h)=false:=NG.2 hs;simp-dsimp[OW]
theorem d0r{h:Hs}(ZY:h.Ok)(low high:Int):ZU prog true rW [h.av,vi low,vi high] [] (vb true) []:=by
 refine YD mq (by simp[Hs.av]) (by decide) rfl ?_;simp-dsimp[a0o,Hs.av];refine Zu e7l (by simp) (by simp) ?_;simp-dsimp;refine Zu (d5r ZY) (by simp[Hs.av]) (by simp[Hs.av]) ?_
 by_cases hs:Y8 h
 ·have YL:Yp (Y8 h)=true:=Rn.2 hs
  by_cases hlh:high<low
  ·simp-dsimp[YL,hlh]
  ·have XS:h.events.length<2^40:=by have:=(qA hs).1;omega
   have a1:=b1o ZY XS low;have a2:=b1o ZY XS high;have b1:=b2o ZY XS low;have b2:=b2o ZY XS high;have t1:=b1o ZY XS 6;have t2:=b2o ZY XS 6;rw[b5l]at t1 t2;have u1:=b3l (h:=h) (low:=low) (high:=high) (by omega) (Tp h.events);have u2:=b3l (h:=h) (low:=low) (high:=high) (by omega) (SX h.events);generalize XH h low (Tp h.events)=a at*
   generalize XH h high (Tp h.events)=b at*;generalize XH h low (SX h.events)=c at*;generalize XH h high (SX h.events)=d at*;simp-dsimp[YL,hlh];refine Zu a1 (by simp[Hs.av]) (by simp[Hs.av]) ?_;simp-dsimp;refine Zu a2 (by simp[Hs.av]) (by simp[Hs.av]) ?_;simp-dsimp;refine Zu b1 (by simp[Hs.av]) (by simp[Hs.av]) ?_;simp-dsimp
   refine Zu b2 (by simp[Hs.av]) (by simp[Hs.av]) ?_
   by_cases hb:b<0
   ·by_cases hd:d<0
    ·simp-dsimp[hb,hd];refine Zu t1 (by simp[Hs.av]) (by simp[Hs.av]) ?_;simp-dsimp;refine Zu t2 (by simp[Hs.av]) (by simp[Hs.av]) ?_;simp-dsimp
    ·have c1:=(u2.resolve_left hd).1;have c2:=(u2.resolve_left hd).2;simp-dsimp[hb,hd,c1,c2];refine Zu t1 (by simp[Hs.av]) (by simp[Hs.av]) ?_;simp-dsimp;refine Zu t2 (by simp[Hs.av]) (by simp[Hs.av]) ?_;simp-dsimp
   ·have e1:=(u1.resolve_left hb).1;have e2:=(u1.resolve_left hb).2
    by_cases hd:d<0
    ·simp-dsimp[hb,hd,e1,e2];refine Zu t1 (by simp[Hs.av]) (by simp[Hs.av]) ?_;simp-dsimp;refine Zu t2 (by simp[Hs.av]) (by simp[Hs.av]) ?_;simp-dsimp
    ·have c1:=(u2.resolve_left hd).1;have c2:=(u2.resolve_left hd).2;simp-dsimp[hb,hd,e1,e2,c1,c2];refine Zu t1 (by simp[Hs.av]) (by simp[Hs.av]) ?_;simp-dsimp;refine Zu t2 (by simp[Hs.av]) (by simp[Hs.av]) ?_;simp-dsimp
 ·have OW:Yp (Y8 h)=false:=NG.2 hs;simp-dsimp[OW]
end Go.Rt
end
