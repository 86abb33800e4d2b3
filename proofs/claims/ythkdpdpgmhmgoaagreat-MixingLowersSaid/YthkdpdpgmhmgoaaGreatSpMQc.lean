/- Contracts of functions of the program, and what they lean on. Conditions: those of each theorem. -/
import Derived.Test.YthkdpdpgmhmgoaaGreatSpMF

set_option linter.unusedVariables false
set_option linter.unusedSimpArgs false
set_option maxHeartbeats 64000000
set_option maxRecDepth 100000
open And renaming intro->b5Z
open Option renaming getD_some->a1J

section
namespace Go.Rt
open Go.Vm
theorem e8s(l:List Eg)(hl:l.length<2^62):ZX prog true X6 [.iv (ZW l), .iv (ZW l)] [] (vb true) []:=by
 have:=d7D l l hl;rwa [decide_eq_true rfl]at this
theorem e9s(l:List Int)(hl:l.length<2^63):ZX prog true RE [.iv (YI l), .iv (YI l)] [] (vb true) []:=by
 have:=b8H l l hl;rwa [decide_eq_true rfl]at this
theorem e0t{h:Hs}(ZY:h.Ok)(Xs:h.Rg):ZX prog true oI [h.av] [] (vb true) []:=by
 refine YG jE (by simp[Hs.av]) (by decide) rfl ?_;simp-dsimp[a2r,Hs.av];refine ZN c3r (by simp) (by simp) ?_;simp-dsimp;refine ZN (d7m ZY) (by simp[Hs.av]) (by simp[Hs.av]) ?_
 by_cases hs:YM h
 ·have YD:Y7 (YM h)=true:=UQ.2 hs;have hm:=d4g hs;have g1:=CL ZY Xs hm;have g2:=d8f ZY Xs hm;have r1:=c8X ZY hm;have r2:=c0Y ZY hm;have s1:=e8s (XQ h Zt) (by have:=G6 hm Zt;omega);have s2:=e8s (XQ h Uf) (by have:=G6 hm Uf;omega);generalize XQ h Zt=a at*;generalize XQ h Uf=b at*;simp-dsimp[YD];refine b5Z ?_ ?_
  all_goals refine Y6 g1 rfl (by simp[Hs.av]) (by simp[Hs.av]) (by simp) (by simp) ?_
  all_goals simp-dsimp
  all_goals refine Y6 r1 rfl (by simp[Hs.av]) (by simp[Hs.av]) (by simp) (by simp) ?_
  all_goals simp-dsimp
  all_goals refine ZN s1 (by simp[ZW]) (by simp) ?_
  all_goals simp-dsimp
  all_goals refine b5Z ?_ ?_
  all_goals refine Y6 g2 rfl (by simp[Hs.av]) (by simp[Hs.av]) (by simp) (by simp) ?_
  all_goals simp-dsimp
  all_goals refine Y6 r2 rfl (by simp[Hs.av]) (by simp[Hs.av]) (by simp) (by simp) ?_
  all_goals simp-dsimp
  all_goals refine ZN s2 (by simp[ZW]) (by simp) ?_
  all_goals simp-dsimp
 ·have Oj:Y7 (YM h)=false:=U6.2 hs;simp-dsimp[Oj]
theorem e1t{h:Hs}(hm:h.T3):((Wj h).getD []).length<2^40:=by
 cases hs:Wj h with
 |none=>simp
 |some s=>
  unfold Wj at hs;split at hs
  ·have:=c4P hs;have:=c1X hm;simp only[a1J];omega
  ·cases hs
theorem e2t{h:Hs}(ZY:h.Ok)(Xs:h.Rg):ZX prog true oL [h.av] [] (vb true) []:=by
 refine YG km (by simp[Hs.av]) (by decide) rfl ?_;simp-dsimp[a9q,Hs.av];refine ZN c3r (by simp) (by simp) ?_;simp-dsimp;refine ZN (c4r ZY) (by simp[Hs.av]) (by simp[Hs.av]) ?_
 by_cases hs:YM h
 ·by_cases hf:(XS h).length<=14
  ·have YD:(Y7 (YM h)&&decide ((XS h).length<=14))=true:=by rw[UQ.2 hs,decide_eq_true hf];rfl
   have hm:=d4g hs;have g1:=c3X ZY Xs hm;have r1:=c2Y ZY hm;have g2:=c4X ZY Xs hm;have r2:=c7Y ZY hm;have g3:=d9f ZY Xs hm;have r3:=c1Y ZY hm;have s1:=e8s (Zh (XQ h Zt) [1,2,3,4,5] [1,2,3,4,5]) (by have:=G6 hm Zt;have:=b6m (l:=XQ h Zt) (fs:=[1,2,3,4,5]) (rs:=[1,2,3,4,5]);omega)
   have s2:=e9s ((Wj h).getD []) (by have:=e1t hm;omega);unfold Ss at g1 r1;generalize Zh (XQ h Zt) [1,2,3,4,5] [1,2,3,4,5]=c at*;generalize Y7 (XO h)=co at*;generalize (Wj h).getD []=sl at*;generalize (Wj h).isSome=si at*;simp-dsimp[YD];refine Y6 g1 rfl (by simp[Hs.av]) (by simp[Hs.av]) (by simp) (by simp) ?_;simp-dsimp
   refine Y6 r1 rfl (by simp[Hs.av]) (by simp[Hs.av]) (by simp) (by simp) ?_;simp-dsimp
   repeat' first
    |(refine b5Z ?_ ?_)
    |(refine ZN g2 (by simp[Hs.av]) (by simp[Hs.av]) ?_;simp-dsimp)
    |(refine ZN r2 (by simp[Hs.av]) (by simp[Hs.av]) ?_;simp-dsimp)
    |(refine Y6 g3 rfl (by simp[Hs.av]) (by simp[Hs.av]) (by simp) (by simp) ?_;simp-dsimp)
    |(refine Y6 r3 rfl (by simp[Hs.av]) (by simp[Hs.av]) (by simp) (by simp) ?_;simp-dsimp)
    |(refine ZN s1 (by simp[ZW]) (by simp) ?_;simp-dsimp)
    |(refine ZN s2 (by simp[YI]) (by simp) ?_;simp-dsimp)
  ·have Oj:(Y7 (YM h)&&decide ((XS h).length<=14))=false:=by rw[decide_eq_false hf,Bool.and_false]
   simp-dsimp[Oj]
 ·have Oj:(Y7 (YM h)&&decide ((XS h).length<=14))=false:=by rw[U6.2 hs];rfl
  simp-dsimp[Oj]
open Classical in
theorem e3t{c:List Eg}(h:VP c)(hl:c.length<2^62):ZX prog true N9 [.iv (ZW c)] [] (vb true) []:=by
 have:=b3s c hl;rwa [decide_eq_true h]at this
theorem e4t:ZM []=[]:=rfl
theorem e5t{s r:List Int}(hs:s.Nodup)(hr:r.Nodup)(h:∀x,x∈s↔x∈r):s.length=r.length:=
 Nat.le_antisymm (oW hs fun x hx=>(h x).1 hx) (oW hr fun x hx=>(h x).2 hx)
theorem e6t{h:Hs}(hw:Zo h){s:List Int}(hs:Wj h=some s):(XQ h Zt).all (fwd s)=true/\s.length=(Xo (Ye h.events)).length:=by
 unfold Wj at hs;rw[if_pos hw]at hs;obtain⟨h1,h2,_⟩:=c4e hs;refine⟨c3P hs,e5t h2 ?_ h1⟩;unfold Xo;rw[(List.mergeSort_perm _ _).nodup_iff];exact a2B hw
theorem e7t{h:Hs}(ZY:h.Ok)(Xs:h.Rg):ZX prog true oK [h.av] [] (vb true) []:=by
 refine YG j0 (by simp[Hs.av]) (by decide) rfl ?_;simp-dsimp[a0r,Hs.av];refine ZN c3r (by simp) (by simp) ?_;simp-dsimp;refine ZN (d7m ZY) (by simp[Hs.av]) (by simp[Hs.av]) ?_
 by_cases hs:YM h
 ·have YD:Y7 (YM h)=true:=UQ.2 hs;have hm:=d4g hs
  have XM:h.events.length<2^40:=by have:=hm.1;omega
  have g1:=c3X ZY Xs hm;have g2:=CL ZY Xs hm;have g3:=d9f ZY Xs hm;have g4:=c4X ZY Xs hm;have mO:=mN ZY;have hvp:=b5m (l:=XQ h Zt) (fs:=[1,2,3,4,5]) (rs:=[1,2,3,4,5]);have hgl:=G6 hm Zt;have QA:=b6m (l:=XQ h Zt) (fs:=[1,2,3,4,5]) (rs:=[1,2,3,4,5]);unfold Ss at g1
  by_cases hw:Zo h
  ·have M8:Y7 (Zo h)=true:=UQ.2 hw;have mC:=c5Y hw;have hco:=c6Y (h:=h)
   have g0a:=fun s=>e6t hw (s:=s)
   have gC:=a7Q ZY hw XM;have hcm:=c1X hm;have hsl:=e1t hm
   cases H8:Wj h with
   |none=>
    rw[H8]at mC g1
    have ZV:Zh (XQ h Zt) [1,2,3,4,5] [1,2,3,4,5]≠[]:=fun g=>by rw[g]at mC;simp at mC
    have Mm:Y7 (XO h)=false:=U6.2 fun g=>by have:=(hco.1 g).1;rw[H8]at this;cases this
    have gV:=e3t (hvp ZV) (by omega);rw[Mm]at g4;have W0:=List.length_pos_iff.2 ZV;generalize Zh (XQ h Zt) [1,2,3,4,5] [1,2,3,4,5]=c at*;generalize XQ h Zt=gr at*
    have hn0:¬c.length=0:=by omega
    simp-dsimp[YD];refine Y6 g1 rfl (by simp[Hs.av]) (by simp[Hs.av]) (by simp) (by simp) ?_;simp-dsimp;refine Y6 g2 rfl (by simp[Hs.av]) (by simp[Hs.av]) (by simp) (by simp) ?_;simp-dsimp;refine Y6 g3 rfl (by simp[Hs.av]) (by simp[Hs.av]) (by simp) (by simp) ?_;simp-dsimp[ZW];refine ZN g4 (by simp[Hs.av]) (by simp[Hs.av]) ?_;simp-dsimp[ZW,W0]
    refine ZN gV (by simp[ZW]) (by simp) ?_;simp-dsimp;refine ZN mO (by simp[Hs.av]) (by simp[Hs.av]) ?_;simp-dsimp[M8,ZW,hn0]
   |some s=>
    rw[H8]at mC g1 hsl
    have he:Zh (XQ h Zt) [1,2,3,4,5] [1,2,3,4,5]=[]:=by simpa using mC.symm
    obtain⟨q1,q2⟩:=g0a s H8;have gR:=b7m (XQ h Zt) s (by omega) (by simp only[a1J]at hsl;omega);rw[q1]at gR;rw[he]at g3;simp only[a1J,Option.isSome_some]at g1;generalize Xo (Ye h.events)=com at*;generalize Y7 (XO h)=co at*;generalize XQ h Zt=gr at*
    have q3:(s.length:Int)=com.length:=by omega
    simp-dsimp[YD];refine Y6 g1 rfl (by simp[Hs.av]) (by simp[Hs.av]) (by simp) (by simp) ?_;simp-dsimp;refine Y6 g2 rfl (by simp[Hs.av]) (by simp[Hs.av]) (by simp) (by simp) ?_;simp-dsimp;refine Y6 g3 rfl (by simp[Hs.av]) (by simp[Hs.av]) (by simp) (by simp) ?_;simp-dsimp[ZW,e4t];refine ZN g4 (by simp[Hs.av]) (by simp[Hs.av]) ?_;cases co
    all_goals simp-dsimp[ZW,e4t]
    all_goals refine ZN mO (by simp[Hs.av]) (by simp[Hs.av]) ?_
    all_goals simp-dsimp[M8,ZW,e4t]
    all_goals refine ZN gR (by simp[ZW,YI]) (by simp) ?_
    all_goals simp-dsimp[YI]
    all_goals refine Y6 gC rfl (by simp[Hs.av]) (by simp[Hs.av]) (by simp) (by simp) ?_
    all_goals simp-dsimp[YI,q2,q3]
  ·have G5:Y7 (Zo h)=false:=U6.2 hw
   have hgr:XQ h Zt=[]:=by unfold XQ;rw[Dw hw];rfl
   have H8:Wj h=none:=by unfold Wj;rw[if_neg hw]
   have Mm:Y7 (XO h)=false:=U6.2 fun g=>hw g.1
   have hc:Zh ([]:List Eg) [1,2,3,4,5] [1,2,3,4,5]=[]:=rfl;rw[hgr]at g2 g3;rw[hc]at g3;rw[H8]at g1;rw[Mm]at g4;simp-dsimp[YD];refine Y6 g1 rfl (by simp[Hs.av]) (by simp[Hs.av]) (by simp) (by simp) ?_;simp-dsimp;refine Y6 g2 rfl (by simp[Hs.av]) (by simp[Hs.av]) (by simp) (by simp) ?_;simp-dsimp
   refine Y6 g3 rfl (by simp[Hs.av]) (by simp[Hs.av]) (by simp) (by simp) ?_;simp-dsimp[ZW,e4t];refine ZN g4 (by simp[Hs.av]) (by simp[Hs.av]) ?_;simp-dsimp[ZW,e4t];refine ZN mO (by simp[Hs.av]) (by simp[Hs.av]) ?_;simp-dsimp[G5,ZW,e4t,YI,YW]
 ·have Oj:Y7 (YM h)=false:=U6.2 hs;simp-dsimp[Oj]
end Go.Rt
end
