/- Contracts of functions of the program, and what they lean on. Conditions: those of each theorem. -/
import Derived.Test.YthkdpdpgmhmgoaaGreatSpUQa
import Derived.Test.YthkdpdpgmhmgoaaGreatSpUF
import Derived.Test.YthkdpdpgmhmgoaaGreatSpUE

set_option linter.unusedVariables false
set_option linter.unusedSimpArgs false
set_option maxHeartbeats 64000000
set_option maxRecDepth 100000

section
namespace Go.Rt
open Go.Vm
theorem a2y{h:Hs}:∀e,e∈YV h->e.ZX∈Xc h.events (ZW h.events)/\e.to∈Xc h.events (ZW h.events):=by
 intro e hm
 by_cases hw:YP h
 ·have:=d8y hw ((a6N hw).1 hm).1;rw[c4B hw];exact⟨e5a.2 this.ZX,e5a.2 this.to⟩
 ·rw[a7N hw]at hm;cases hm
theorem a3y{h:Hs}:∀e,e∈YV h->1<=e.kind/\e.kind<=5:=by
 intro e hm
 by_cases hw:YP h
 ·exact(d8y hw ((a6N hw).1 hm).1).kind
 ·rw[a7N hw]at hm;cases hm
theorem Sb{α:Type}{l:List α}:l=[]↔l.length=0:=List.length_eq_zero_iff.symm
theorem a4y{h:Hs}(ZY:h.Ok)(Xp:h.Rg):ZU prog true su [h.av] [] (vb true) []:=by
 refine YD qB (by simp[Hs.av]) (by decide) rfl ?_;simp-dsimp[a7n,Hs.av];refine Zu e7l (by simp) (by simp) ?_;simp-dsimp;refine Zu (d5r ZY) (by simp[Hs.av]) (by simp[Hs.av]) ?_
 by_cases hs:Y8 h
 ·have YL:Yp (Y8 h)=true:=Rn.2 hs;have hm:=qA hs
  have XS:h.events.length<2^40:=by have:=hm.1;omega
  have hlen:=Fp hm;have g0:=d3u ZY Xp hm;have g1:=d4u ZY Xp hm;have g2:=d2c ZY Xp hm;have g3:=d5u ZY Xp hm;have g4:=d6u ZY Xp hm;have gE:=d4V ZY hm;have gC:=a7Q ZY XS;have gS:=e1f (YV h) (by omega) (row:=Xc h.events (ZW h.events)) (by have:=c3B h.events (ZW h.events);have:=c7A h.events;omega)
  have f2g:=b2n (row:=Xc h.events (ZW h.events)) a3y a2y;unfold f3g at gS;rw[f2g]at gS;have i1:=b9m (es:=YV h);have i2:=b0n (es:=YV h);have i3:=b1n (es:=YV h);generalize Wt (UC (YV h)) (Xc h.events (ZW h.events))=tp at*;generalize Xc h.events (ZW h.events)=row at*;generalize ZL (YV h) [1] [1]=x0 at*
  generalize ZL (YV h) [1,2,3] [1,2,3]=x1 at*;generalize Xb (YV h) (YV h)=x2 at*;generalize ZL (YV h) [4] [1,2,3,4,5]=x3 at*;generalize ZL (YV h) [4,5] [1,2,3,4,5]=x4 at*;generalize YV h=es at*;rw[ne_eq,ne_eq,Sb,Sb]at i1 i2 i3;simp only[Sb]at gS;simp-dsimp[YL];refine Yk g0 rfl (by simp[Hs.av]) (by simp[Hs.av]) (by simp) (by simp) ?_
  simp-dsimp[Z5];refine Yk g1 rfl (by simp[Hs.av]) (by simp[Hs.av]) (by simp) (by simp) ?_;simp-dsimp[Z5];refine Yk g2 rfl (by simp[Hs.av]) (by simp[Hs.av]) (by simp) (by simp) ?_;simp-dsimp[Z5];refine Yk g3 rfl (by simp[Hs.av]) (by simp[Hs.av]) (by simp) (by simp) ?_;simp-dsimp[Z5];refine Yk g4 rfl (by simp[Hs.av]) (by simp[Hs.av]) (by simp) (by simp) ?_
  have key:∀(p0 p1 p2 p3 p4:Prop) [Decidable p0] [Decidable p1] [Decidable p2] [Decidable p3] [Decidable p4],True:=fun _ _ _ _ _=>trivial
  by_cases c0:x0.length=0<;>by_cases c1:x1.length=0<;>by_cases c2:x2.length=0<;>by_cases c3:x3.length=0<;>by_cases c4:x4.length=0
  all_goals try (exfalso;revert i1 i2 i3;simp[c0,c1,c2,c3,c4];done)
  all_goals simp only[c0,c1,c2,c3,c4,decide_true,decide_false,Bool.and_true,Bool.and_false,Bool.true_and,Bool.false_and]at gS
  all_goals simp-dsimp[Z5,c0,c1,c2,c3,c4,Nat.pos_iff_ne_zero]
  all_goals
   constructor
   all_goals refine Yk gE rfl (by simp[Hs.av]) (by simp[Hs.av]) (by simp) (by simp) ?_
   all_goals simp-dsimp
   all_goals refine Yk gC rfl (by simp[Hs.av]) (by simp[Hs.av]) (by simp) (by simp) ?_
   all_goals simp-dsimp
   all_goals refine Yk gS rfl (by simp[Z5,XJ]) (by simp) (by simp) (by simp) ?_
   all_goals simp-dsimp[c0,c1,c2,c3,c4]
 ·have OW:Yp (Y8 h)=false:=NG.2 hs;simp-dsimp[OW]
end Go.Rt
end
