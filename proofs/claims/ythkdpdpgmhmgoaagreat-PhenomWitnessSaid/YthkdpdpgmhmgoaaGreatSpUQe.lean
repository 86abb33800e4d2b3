/- Contracts of functions of the program, and what they lean on. Conditions: those of each theorem. -/
import Derived.Test.YthkdpdpgmhmgoaaGreatSpUQa
import Derived.Test.YthkdpdpgmhmgoaaGreatSpUF

set_option linter.unusedVariables false
set_option linter.unusedSimpArgs false
set_option maxHeartbeats 64000000
set_option maxRecDepth 100000
open List renaming mem_cons->a2E,not_mem_nil->b8w,take_length->a7I

section
namespace Go.Rt
open Go.Vm
def WW(cs:List (List Eg)):List (List IV):=cs.map fun c=>[Z5 c]
@[simp]theorem b5Z(cs:List (List Eg))(i:Nat):(WW cs)[i]? =(cs[i]?).map fun c=>[Z5 c]:=by simp[WW]
def b6Z:List OpQ:=[(22, .ld (.tmp 1) (some 3),[]),(23, .call YA ([22].map Operand.tmp),[22]),(24, .ld (.tmp 1) (some 3),[]),(25, .call X4 ([24].map Operand.tmp),[24]),
 (26, .ld (.tmp 1) (some 3),[]),(27, .call XX ([26].map Operand.tmp),[26]),(28, .ld (.tmp 1) (some 3),[]),(29, .call XW ([28].map Operand.tmp),[28]),(30, .ld (.tmp 1) (some 3),[])]
def f7j(h:Hs)(x0 x1 x2 x3:List Eg):Nat->AV
 | 22=>h.av| 24=>h.av| 26=>h.av| 28=>h.av| 30=>h.av
 | 23=> .iv (Z5 x0)| 25=> .iv (Z5 x1)| 27=> .iv (Z5 x2)| 29=> .iv (Z5 x3)
 | 1=> .ptr 1 0| _=> .junk
def b7Z:VT:= .op (oo 32 (.lit 1 5 [(0,(.tmp 23)),(1,(.tmp 25)),(2,(.tmp 27)),(3,(.tmp 29)),(4,(.tmp 31))])) (.op (oo 6 (.Td (.tmp 32))) .done)
theorem b8Z:Od b6Z 31 (.call XT [.tmp 30]) Vi []=true:=by kernel_rfl
theorem b9Z:D2 31 Vi=List.replicate (D2 31 Vi).length b7Z:=by kernel_rfl
open Classical in
theorem c0a{c:List Eg}(h:VP c)(hl:c.length<2^62):ZU prog true Ub [.iv (Z5 c)] [] (vb true) []:=by
 have:=b1t c hl;rwa [decide_eq_true h]at this
theorem c1a{es:List Eg}{q:Nat}{y x:Eg}(hy:es[q]? =some y):(x∈es.take (q+1))↔(x∈es.take q\/x=y):=by
 rw[show es.take (q+1)=es.take q++[y] by rw[List.take_add_one,hy];rfl,List.mem_append,List.mem_singleton]
theorem c2a{h:Hs}(ZY:h.Ok)(Xp:h.Rg):ZU prog true rZ [h.av] [] (vb true) []:=by
 refine YD oA (by simp[Hs.av]) (by decide) rfl ?_;simp-dsimp[a6n,Hs.av, -Vi];refine Zu e7l (by simp) (by simp) ?_;simp-dsimp[-Vi];refine Zu (d5r ZY) (by simp[Hs.av]) (by simp[Hs.av]) ?_
 by_cases hs:Y8 h
 ·have YL:Yp (
   Y8 h)=true:=Rn.2 hs
  have hm:=qA hs;have hlen:=Fp hm;have g0:=d3u ZY Xp hm;have g1:=d4u ZY Xp hm;have g2:=d2c ZY Xp hm;have g3:=d5u ZY Xp hm;have g4:=d6u ZY Xp hm;have gE:=d4V ZY hm;have w0:=f7M (YV h);have w1:=f8M (YV h);have w2:=f1N (YV h);have w3:=f9M (YV h);have w4:=f0N (YV h);have l0:=Eb (l:=YV h) (fs:=[1]) (rs:=[1])
  have l1:=Eb (l:=YV h) (fs:=[1,2,3]) (rs:=[1,2,3]);have l2:=b4n (es:=YV h);have l3:=Eb (l:=YV h) (fs:=[4]) (rs:=[1,2,3,4,5]);have l4:=Eb (l:=YV h) (fs:=[4,5]) (rs:=[1,2,3,4,5]);generalize ZL (YV h) [1] [1]=x0 at*;generalize ZL (YV h) [1,2,3] [1,2,3]=x1 at*;generalize Xb (YV h) (YV h)=x2 at*
  generalize ZL (YV h) [4] [1,2,3,4,5]=x3 at*;generalize ZL (YV h) [4,5] [1,2,3,4,5]=x4 at*;generalize YV h=es at*;simp-dsimp[YL, -Vi];refine Yk gE rfl (by simp[Hs.av]) (by simp[Hs.av]) (by simp) (by simp) ?_;simp-dsimp[-Vi]
  refine b7x (F:=f7j h x0 x1 x2 x3) (ops:=b6Z) (fin:=b7Z) ?_ ?_ _ [] _ ⟨rfl,fun _=>by simp⟩ (fun t ht=>by simp at ht) b8Z (b3y b9Z)
  ·intro q hq;simp only[b6Z,a2E,b8w,or_false]at hq
   rcases hq with rfl|rfl|rfl|rfl|rfl|rfl|rfl|rfl|rfl
   ·exact pj (id:=1) (off:=0) (cs:=[.iv (.Z6 1 (Zd h.tables)), .iv (.Z6 22 (Zi h.events)), .iv (.Z6 5 (Zh h.order))]) rfl rfl (by simp) (.inr ⟨rfl,rfl⟩)
   ·exact b1y g0 rfl rfl rfl rfl rfl
   ·exact pj (id:=1) (off:=0) (cs:=[.iv (.Z6 1 (Zd h.tables)), .iv (.Z6 22 (Zi h.events)), .iv (.Z6 5 (Zh h.order))]) rfl rfl (by simp) (.inr ⟨rfl,rfl⟩)
   ·exact b1y g1 rfl rfl rfl rfl rfl
   ·exact pj (id:=1) (off:=0) (cs:=[.iv (.Z6 1 (Zd h.tables)), .iv (.Z6 22 (Zi h.events)), .iv (.Z6 5 (Zh h.order))]) rfl rfl (by simp) (.inr ⟨rfl,rfl⟩)
   ·exact b1y g2 rfl rfl rfl rfl rfl
   ·exact pj (id:=1) (off:=0) (cs:=[.iv (.Z6 1 (Zd h.tables)), .iv (.Z6 22 (Zi h.events)), .iv (.Z6 5 (Zh h.order))]) rfl rfl (by simp) (.inr ⟨rfl,rfl⟩)
   ·exact b1y g3 rfl rfl rfl rfl rfl
   ·exact pj (id:=1) (off:=0) (cs:=[.iv (.Z6 1 (Zd h.tables)), .iv (.Z6 22 (Zi h.events)), .iv (.Z6 5 (Zh h.order))]) rfl rfl (by simp) (.inr ⟨rfl,rfl⟩)
  ·intro S s hs hS Zt;simp only[ZP]
   have hle:=hs.le [30,29,27,25,23] (fun t ht=>by
    simp only[b6Z,List.all_cons,List.all_nil,Bool.and_true,Bool.and_eq_true]at Zt;simp only[List.contains_cons,List.contains_nil,Bool.or_false,Bool.or_eq_true,beq_iff_eq]at ht
    rcases ht with rfl|rfl|rfl|rfl|rfl
    ·exact Zt.2.2.2.2.2.2.2.2
    ·exact Zt.2.2.2.2.2.2.2.1
    ·exact Zt.2.2.2.2.2.1
    ·exact Zt.2.2.2.1
    ·exact Zt.2.1) (fun t h1 h2=>by
    obtain⟨q,hq,rfl⟩:=hS t h1;simp only[b6Z,a2E,b8w,or_false]at hq
    rcases hq with rfl|rfl|rfl|rfl|rfl|rfl|rfl|rfl|rfl<;>rfl)
   show NC prog 31 XT [] [.tmp 30] [] none s _
   refine o9 hle ?_;clear hle Zt hS hs;simp-dsimp[b5x,f7j,b7Z,Hs.av];refine Yk g4 rfl (by simp[Hs.av]) (by simp[Hs.av]) (by simp) (by simp) ?_
   have hcs:∀i c,[x0,x1,x2,x3,x4][i]? =some c->JJ es i c/\c.length<=es.length:=fun i c hc=>by
    match i,hc with
    | 0,hc=>cases hc;exact⟨w0,l0⟩
    | 1,hc=>cases hc;exact⟨w1,l1⟩
    | 2,hc=>cases hc;exact⟨w2,l2⟩
    | 3,hc=>cases hc;exact⟨w3,l3⟩
    | 4,hc=>cases hc;exact⟨w4,l4⟩
    |i+5,hc=>cases hc
   have Rc:WW [x0,x1,x2,x3,x4]=[[Z5 x0],[Z5 x1],[Z5 x2],[Z5 x3],[Z5 x4]]:=rfl;have hc5:([x0,x1,x2,x3,x4]:List (List Eg)).length=5:=rfl;simp-dsimp[b7Z];rw[<-Rc];generalize ([x0,x1,x2,x3,x4]:List (List Eg))=cs at*;refine YZ [1] [] 5 (fun i=>⟨[(7,vi i),(6, .sl 32 1 0 5),(5, .iv (Z5 es))],[(32, .list 1 (WW cs))]⟩) (fun _=>True) ?_ trivial ?_
   ·simp-dsimp
   ·intro i hi _
    by_cases hi5:i<5
    ·obtain⟨c,hc⟩:∃c,cs[i]? =some c:=Zw (by omega);obtain⟨hW,f8j⟩:=hcs i c hc
     have VZ:i=0\/i=1\/i=2\/i=3\/i=4:=by omega
     clear hcs w0 w1 w2 w3 w4 l0 l1 l2 l3 l4 g0 g1 g2 g3 g4 Rc
     rcases VZ with rfl|rfl|rfl|rfl|rfl
     ·have hg:(WW cs)[0]? =some [Z5 c]:=by rw[b5Z,hc];rfl
      have O7:IntKind.i64.wrap (1:Int)=1:=Zo (by omega)
      have hV:¬c.length=0->ZU prog true Ub [.iv (Z5 c)] [] (vb true) []:=fun g=>c0a (hW.vp fun q=>g (by rw[q];rfl)) (by omega)
      by_cases UZ:c.length=0
      ·simp-dsimp[XK,hg,Z5,UZ];refine YZ [] [] 0 (fun k=>⟨[(9,vi k),(8, .iv (Z5 c)),(7,vi (0:Nat)),(6, .sl 32 1 0 5),(5, .iv (Z5 es))],[(32, .list 1 (WW cs))]⟩) (fun _=>True) ?_ trivial ?_
       ·simp[Z5]
       ·intro k hk _
        obtain rfl:k=0:=by omega
        simp-dsimp[YE,Z5,UZ,O7]
      ·have Yy:0<c.length:=by omega
       obtain⟨c0,SP⟩:∃c0,c[0]? =some c0:=Zw Yy;simp-dsimp[XK,hg,Z5,Yy];refine Zu (hV UZ) (by simp[Z5]) (by simp) ?_;simp-dsimp;refine YZ [] [] c.length (fun k=>⟨[(9,vi k),(8, .iv (Z5 c)),(7,vi (0:Nat)),(6, .sl 32 1 0 5),(5, .iv (Z5 es))],[(32, .list 1 (WW cs))]⟩) (fun _=>True) ?_ trivial ?_
       ·simp[Z5]
       ·intro k hk _
        by_cases XL:k<c.length
        ·obtain⟨x,hx⟩:=Zw XL;have Yq:=hW.Xq k x hx;have Ux:=Zo (n:=(k:Int)+1) (by omega)
         have Vx:decide (k<c.length)=true:=by simpa using XL
         simp-dsimp[YE,Z5,Vx];refine YZ [] [] es.length (fun q=>⟨[(11,vi q),(10,vb (decide (x∈es.take q))),(9,vi k),(8, .iv (Z5 c)),(7,vi (0:Nat)),(6, .sl 32 1 0 5),(5, .iv (Z5 es))],[(32, .list 1 (WW cs))]⟩) (fun _=>True) ?_ trivial ?_
         ·simp[Z5]
         ·intro q hq _
          by_cases VG:q<es.length
          ·obtain⟨y,hy⟩:=Zw VG;have P0:=Zo (n:=(q:Int)+1) (by omega)
           have PZ:decide (q<es.length)=true:=by simpa using VG
           have QX:=c1a (x:=x) hy
           by_cases hm:x∈es.take q
           ·have Uu:x∈es.take (q+1):=QX.2 (.inl hm);simp-dsimp[Zq,Z5,PZ,hm,Uu,P0];exact VG
           ·by_cases VX:x=y
            ·have Uu:x∈es.take (q+1):=QX.2 (.inr VX);rw[<-VX]at hy;simp-dsimp[Zq,Z5,PZ,Vx,hm,Uu,hx,hy,Eg.cells,Zc,P0];exact VG
            ·have Uu:¬x∈es.take (q+1):=fun g=>(QX.1 g).elim hm VX
             have GH:¬(y.ZX=x.ZX/\y.to=x.to/\y.kind=x.kind/\y.table=x.table/\y.key.text=x.key.text/\y.key.n=x.key.n/\y.key.s=x.key.s/\y.ZN=x.ZN):=fun g=>VX (Eg.U9.2 g).symm
             simp-dsimp[Zq,Z5,PZ,Vx,hm,Uu,hx,hy,Eg.cells,Zc,P0];exact⟨VG,fun a b c d e1 e2 e3 e4=>GH ⟨a,b,c,d,e1,e2,e3,e4⟩⟩
          ·obtain rfl:q=es.length:=by omega
           rw[a7I];have k1:=hW.ww rfl k x hx;simp-dsimp[Zq,Z5,Yq,hx,Vx,Eg.cells,Zc,Ux,k1];exact XL
        ·obtain rfl:k=c.length:=by omega
         simp-dsimp[YE,Z5,O7]
     ·have hg:(WW cs)[1]? =some [Z5 c]:=by rw[b5Z,hc];rfl
      have O7:IntKind.i64.wrap (2:Int)=2:=Zo (by omega)
      have hV:¬c.length=0->ZU prog true Ub [.iv (Z5 c)] [] (vb true) []:=fun g=>c0a (hW.vp fun q=>g (by rw[q];rfl)) (by omega)
      by_cases UZ:c.length=0
      ·simp-dsimp[XK,hg,Z5,UZ];refine YZ [] [] 0 (fun k=>⟨[(9,vi k),(8, .iv (Z5 c)),(7,vi (1:Nat)),(6, .sl 32 1 0 5),(5, .iv (Z5 es))],[(32, .list 1 (WW cs))]⟩) (fun _=>True) ?_ trivial ?_
       ·simp[Z5]
       ·intro k hk _
        obtain rfl:k=0:=by omega
        simp-dsimp[YE,Z5,UZ,O7]
      ·have Yy:0<c.length:=by omega
       obtain⟨c0,SP⟩:∃c0,c[0]? =some c0:=Zw Yy;simp-dsimp[XK,hg,Z5,Yy];refine Zu (hV UZ) (by simp[Z5]) (by simp) ?_;simp-dsimp;refine YZ [] [] c.length (fun k=>⟨[(9,vi k),(8, .iv (Z5 c)),(7,vi (1:Nat)),(6, .sl 32 1 0 5),(5, .iv (Z5 es))],[(32, .list 1 (WW cs))]⟩) (fun _=>True) ?_ trivial ?_
       ·simp[Z5]
       ·intro k hk _
        by_cases XL:k<c.length
        ·obtain⟨x,hx⟩:=Zw XL;have Yq:=hW.Xq k x hx;have Ux:=Zo (n:=(k:Int)+1) (by omega)
         have Vx:decide (k<c.length)=true:=by simpa using XL
         simp-dsimp[YE,Z5,Vx];refine YZ [] [] es.length (fun q=>⟨[(11,vi q),(10,vb (decide (x∈es.take q))),(9,vi k),(8, .iv (Z5 c)),(7,vi (1:Nat)),(6, .sl 32 1 0 5),(5, .iv (Z5 es))],[(32, .list 1 (WW cs))]⟩) (fun _=>True) ?_ trivial ?_
         ·simp[Z5]
         ·intro q hq _
          by_cases VG:q<es.length
          ·obtain⟨y,hy⟩:=Zw VG;have P0:=Zo (n:=(q:Int)+1) (by omega)
           have PZ:decide (q<es.length)=true:=by simpa using VG
           have QX:=c1a (x:=x) hy
           by_cases hm:x∈es.take q
           ·have Uu:x∈es.take (q+1):=QX.2 (.inl hm);simp-dsimp[Zq,Z5,PZ,hm,Uu,P0];exact VG
           ·by_cases VX:x=y
            ·have Uu:x∈es.take (q+1):=QX.2 (.inr VX);rw[<-VX]at hy;simp-dsimp[Zq,Z5,PZ,Vx,hm,Uu,hx,hy,Eg.cells,Zc,P0];exact VG
            ·have Uu:¬x∈es.take (q+1):=fun g=>(QX.1 g).elim hm VX
             have GH:¬(y.ZX=x.ZX/\y.to=x.to/\y.kind=x.kind/\y.table=x.table/\y.key.text=x.key.text/\y.key.n=x.key.n/\y.key.s=x.key.s/\y.ZN=x.ZN):=fun g=>VX (Eg.U9.2 g).symm
             simp-dsimp[Zq,Z5,PZ,Vx,hm,Uu,hx,hy,Eg.cells,Zc,P0];exact⟨VG,fun a b c d e1 e2 e3 e4=>GH ⟨a,b,c,d,e1,e2,e3,e4⟩⟩
          ·obtain rfl:q=es.length:=by omega
           rw[a7I];obtain⟨k4,k5⟩:=hW.On (by decide) k x hx;simp-dsimp[Zq,Z5,Yq,hx,Vx,Eg.cells,Zc,Ux,k4,k5];exact XL
        ·obtain rfl:k=c.length:=by omega
         simp-dsimp[YE,Z5,O7]
     ·have hg:(WW cs)[2]? =some [Z5 c]:=by rw[b5Z,hc];rfl
      have O7:IntKind.i64.wrap (3:Int)=3:=Zo (by omega)
      have hV:¬c.length=0->ZU prog true Ub [.iv (Z5 c)] [] (vb true) []:=fun g=>c0a (hW.vp fun q=>g (by rw[q];rfl)) (by omega)
      by_cases UZ:c.length=0
      ·simp-dsimp[XK,hg,Z5,UZ];refine YZ [] [] 0 (fun k=>⟨[(9,vi k),(8, .iv (Z5 c)),(7,vi (2:Nat)),(6, .sl 32 1 0 5),(5, .iv (Z5 es))],[(32, .list 1 (WW cs))]⟩) (fun _=>True) ?_ trivial ?_
       ·simp[Z5]
       ·intro k hk _
        obtain rfl:k=0:=by omega
        simp-dsimp[YE,Z5,UZ,O7]
      ·have Yy:0<c.length:=by omega
       obtain⟨c0,SP⟩:∃c0,c[0]? =some c0:=Zw Yy;simp-dsimp[XK,hg,Z5,Yy];refine Zu (hV UZ) (by simp[Z5]) (by simp) ?_;simp-dsimp;refine YZ [] [] c.length (fun k=>⟨[(9,vi k),(8, .iv (Z5 c)),(7,vi (2:Nat)),(6, .sl 32 1 0 5),(5, .iv (Z5 es))],[(32, .list 1 (WW cs))]⟩) (fun _=>True) ?_ trivial ?_
       ·simp[Z5]
       ·intro k hk _
        by_cases XL:k<c.length
        ·obtain⟨x,hx⟩:=Zw XL;have Yq:=hW.Xq k x hx;have Ux:=Zo (n:=(k:Int)+1) (by omega)
         have Vx:decide (k<c.length)=true:=by simpa using XL
         simp-dsimp[YE,Z5,Vx];refine YZ [] [] es.length (fun q=>⟨[(11,vi q),(10,vb (decide (x∈es.take q))),(9,vi k),(8, .iv (Z5 c)),(7,vi (2:Nat)),(6, .sl 32 1 0 5),(5, .iv (Z5 es))],[(32, .list 1 (WW cs))]⟩) (fun _=>True) ?_ trivial ?_
         ·simp[Z5]
         ·intro q hq _
          by_cases VG:q<es.length
          ·obtain⟨y,hy⟩:=Zw VG;have P0:=Zo (n:=(q:Int)+1) (by omega)
           have PZ:decide (q<es.length)=true:=by simpa using VG
           have QX:=c1a (x:=x) hy
           by_cases hm:x∈es.take q
           ·have Uu:x∈es.take (q+1):=QX.2 (.inl hm);simp-dsimp[Zq,Z5,PZ,hm,Uu,P0];exact VG
           ·by_cases VX:x=y
            ·have Uu:x∈es.take (q+1):=QX.2 (.inr VX);rw[<-VX]at hy;simp-dsimp[Zq,Z5,PZ,Vx,hm,Uu,hx,hy,Eg.cells,Zc,P0];exact VG
            ·have Uu:¬x∈es.take (q+1):=fun g=>(QX.1 g).elim hm VX
             have GH:¬(y.ZX=x.ZX/\y.to=x.to/\y.kind=x.kind/\y.table=x.table/\y.key.text=x.key.text/\y.key.n=x.key.n/\y.key.s=x.key.s/\y.ZN=x.ZN):=fun g=>VX (Eg.U9.2 g).symm
             simp-dsimp[Zq,Z5,PZ,Vx,hm,Uu,hx,hy,Eg.cells,Zc,P0];exact⟨VG,fun a b c d e1 e2 e3 e4=>GH ⟨a,b,c,d,e1,e2,e3,e4⟩⟩
          ·obtain rfl:q=es.length:=by omega
           rw[a7I]
           have rA:decide (0<c.length)=true:=by simpa using Yy
           obtain⟨ck,ct,ccu,ci4⟩:=hW.cur rfl k x c0 hx SP
           by_cases RH:k=0
           ·have k4:=ci4.1 RH;have Nu:=ccu RH;subst RH;simp-dsimp[Zq,Z5,Yq,hx,rA,Eg.cells,Zc,k4,Nu];exact⟨XL,Zo (n:=1) (by omega)⟩
           ·have k4:¬x.kind=4:=fun g=>RH (ci4.2 g)
            have LG:((k:Int)==0)=(x.kind==4):=by
             have a1:((k:Int)==0)=false:=by rw[beq_eq_false_iff_ne];omega
             have a2:(x.kind==4)=false:=by rw[beq_eq_false_iff_ne];exact k4
             rw[a1,a2]
            by_cases k5:x.kind=5
            ·simp-dsimp[Zq,Z5,Yq,hx,Vx,Eg.cells,Zc,Ux,SP,rA,k4,k5,ck,ct,RH];exact XL
            ·simp-dsimp[Zq,Z5,Yq,hx,Vx,Eg.cells,Zc,Ux,SP,rA,k4,k5,ck,ct,RH];exact⟨LG,fun _=>XL⟩
        ·obtain rfl:k=c.length:=by omega
         simp-dsimp[YE,Z5,O7]
     ·have hg:(WW cs)[3]? =some [Z5 c]:=by rw[b5Z,hc];rfl
      have O7:IntKind.i64.wrap (4:Int)=4:=Zo (by omega)
      have hV:¬c.length=0->ZU prog true Ub [.iv (Z5 c)] [] (vb true) []:=fun g=>c0a (hW.vp fun q=>g (by rw[q];rfl)) (by omega)
      by_cases UZ:c.length=0
      ·simp-dsimp[XK,hg,Z5,UZ];refine YZ [] [] 0 (fun k=>⟨[(9,vi k),(8, .iv (Z5 c)),(7,vi (3:Nat)),(6, .sl 32 1 0 5),(5, .iv (Z5 es))],[(32, .list 1 (WW cs))]⟩) (fun _=>True) ?_ trivial ?_
       ·simp[Z5]
       ·intro k hk _
        obtain rfl:k=0:=by omega
        simp-dsimp[YE,Z5,UZ,O7]
      ·have Yy:0<c.length:=by omega
       obtain⟨c0,SP⟩:∃c0,c[0]? =some c0:=Zw Yy;simp-dsimp[XK,hg,Z5,Yy];refine Zu (hV UZ) (by simp[Z5]) (by simp) ?_;simp-dsimp;refine YZ [] [] c.length (fun k=>⟨[(9,vi k),(8, .iv (Z5 c)),(7,vi (3:Nat)),(6, .sl 32 1 0 5),(5, .iv (Z5 es))],[(32, .list 1 (WW cs))]⟩) (fun _=>True) ?_ trivial ?_
       ·simp[Z5]
       ·intro k hk _
        by_cases XL:k<c.length
        ·obtain⟨x,hx⟩:=Zw XL;have Yq:=hW.Xq k x hx;have Ux:=Zo (n:=(k:Int)+1) (by omega)
         have Vx:decide (k<c.length)=true:=by simpa using XL
         simp-dsimp[YE,Z5,Vx];refine YZ [] [] es.length (fun q=>⟨[(11,vi q),(10,vb (decide (x∈es.take q))),(9,vi k),(8, .iv (Z5 c)),(7,vi (3:Nat)),(6, .sl 32 1 0 5),(5, .iv (Z5 es))],[(32, .list 1 (WW cs))]⟩) (fun _=>True) ?_ trivial ?_
         ·simp[Z5]
         ·intro q hq _
          by_cases VG:q<es.length
          ·obtain⟨y,hy⟩:=Zw VG;have P0:=Zo (n:=(q:Int)+1) (by omega)
           have PZ:decide (q<es.length)=true:=by simpa using VG
           have QX:=c1a (x:=x) hy
           by_cases hm:x∈es.take q
           ·have Uu:x∈es.take (q+1):=QX.2 (.inl hm);simp-dsimp[Zq,Z5,PZ,hm,Uu,P0];exact VG
           ·by_cases VX:x=y
            ·have Uu:x∈es.take (q+1):=QX.2 (.inr VX);rw[<-VX]at hy;simp-dsimp[Zq,Z5,PZ,Vx,hm,Uu,hx,hy,Eg.cells,Zc,P0];exact VG
            ·have Uu:¬x∈es.take (q+1):=fun g=>(QX.1 g).elim hm VX
             have GH:¬(y.ZX=x.ZX/\y.to=x.to/\y.kind=x.kind/\y.table=x.table/\y.key.text=x.key.text/\y.key.n=x.key.n/\y.key.s=x.key.s/\y.ZN=x.ZN):=fun g=>VX (Eg.U9.2 g).symm
             simp-dsimp[Zq,Z5,PZ,Vx,hm,Uu,hx,hy,Eg.cells,Zc,P0];exact⟨VG,fun a b c d e1 e2 e3 e4=>GH ⟨a,b,c,d,e1,e2,e3,e4⟩⟩
          ·obtain rfl:q=es.length:=by omega
           rw[a7I]
           by_cases k4:x.kind=4
           ·simp-dsimp[Zq,Z5,Yq,hx,Vx,Eg.cells,Zc,Ux,k4];exact XL
           ·by_cases k5:x.kind=5
            ·simp-dsimp[Zq,Z5,Yq,hx,Vx,Eg.cells,Zc,Ux,k4,k5];exact XL
            ·simp-dsimp[Zq,Z5,Yq,hx,Vx,Eg.cells,Zc,Ux,k4,k5];exact XL
        ·obtain rfl:k=c.length:=by omega
         have k4:=hW.item rfl c0 SP
         have rA:decide (0<c.length)=true:=by simpa using Yy
         simp-dsimp[YE,Z5,SP,rA,Eg.cells,Zc,k4,O7]
     ·have hg:(WW cs)[4]? =some [Z5 c]:=by rw[b5Z,hc];rfl
      have O7:IntKind.i64.wrap (5:Int)=5:=Zo (by omega)
      have hV:¬c.length=0->ZU prog true Ub [.iv (Z5 c)] [] (vb true) []:=fun g=>c0a (hW.vp fun q=>g (by rw[q];rfl)) (by omega)
      by_cases UZ:c.length=0
      ·simp-dsimp[XK,hg,Z5,UZ];refine YZ [] [] 0 (fun k=>⟨[(9,vi k),(8, .iv (Z5 c)),(7,vi (4:Nat)),(6, .sl 32 1 0 5),(5, .iv (Z5 es))],[(32, .list 1 (WW cs))]⟩) (fun _=>True) ?_ trivial ?_
       ·simp[Z5]
       ·intro k hk _
        obtain rfl:k=0:=by omega
        simp-dsimp[YE,Z5,UZ,O7]
      ·have Yy:0<c.length:=by omega
       obtain⟨c0,SP⟩:∃c0,c[0]? =some c0:=Zw Yy;simp-dsimp[XK,hg,Z5,Yy];refine Zu (hV UZ) (by simp[Z5]) (by simp) ?_;simp-dsimp;refine YZ [] [] c.length (fun k=>⟨[(9,vi k),(8, .iv (Z5 c)),(7,vi (4:Nat)),(6, .sl 32 1 0 5),(5, .iv (Z5 es))],[(32, .list 1 (WW cs))]⟩) (fun _=>True) ?_ trivial ?_
       ·simp[Z5]
       ·intro k hk _
        by_cases XL:k<c.length
        ·obtain⟨x,hx⟩:=Zw XL;have Yq:=hW.Xq k x hx;have Ux:=Zo (n:=(k:Int)+1) (by omega)
         have Vx:decide (k<c.length)=true:=by simpa using XL
         simp-dsimp[YE,Z5,Vx];refine YZ [] [] es.length (fun q=>⟨[(11,vi q),(10,vb (decide (x∈es.take q))),(9,vi k),(8, .iv (Z5 c)),(7,vi (4:Nat)),(6, .sl 32 1 0 5),(5, .iv (Z5 es))],[(32, .list 1 (WW cs))]⟩) (fun _=>True) ?_ trivial ?_
         ·simp[Z5]
         ·intro q hq _
          by_cases VG:q<es.length
          ·obtain⟨y,hy⟩:=Zw VG;have P0:=Zo (n:=(q:Int)+1) (by omega)
           have PZ:decide (q<es.length)=true:=by simpa using VG
           have QX:=c1a (x:=x) hy
           by_cases hm:x∈es.take q
           ·have Uu:x∈es.take (q+1):=QX.2 (.inl hm);simp-dsimp[Zq,Z5,PZ,hm,Uu,P0];exact VG
           ·by_cases VX:x=y
            ·have Uu:x∈es.take (q+1):=QX.2 (.inr VX);rw[<-VX]at hy;simp-dsimp[Zq,Z5,PZ,Vx,hm,Uu,hx,hy,Eg.cells,Zc,P0];exact VG
            ·have Uu:¬x∈es.take (q+1):=fun g=>(QX.1 g).elim hm VX
             have GH:¬(y.ZX=x.ZX/\y.to=x.to/\y.kind=x.kind/\y.table=x.table/\y.key.text=x.key.text/\y.key.n=x.key.n/\y.key.s=x.key.s/\y.ZN=x.ZN):=fun g=>VX (Eg.U9.2 g).symm
             simp-dsimp[Zq,Z5,PZ,Vx,hm,Uu,hx,hy,Eg.cells,Zc,P0];exact⟨VG,fun a b c d e1 e2 e3 e4=>GH ⟨a,b,c,d,e1,e2,e3,e4⟩⟩
          ·obtain rfl:q=es.length:=by omega
           rw[a7I]
           by_cases k4:x.kind=4
           ·simp-dsimp[Zq,Z5,Yq,hx,Vx,Eg.cells,Zc,Ux,k4];exact XL
           ·by_cases k5:x.kind=5
            ·simp-dsimp[Zq,Z5,Yq,hx,Vx,Eg.cells,Zc,Ux,k4,k5];exact XL
            ·simp-dsimp[Zq,Z5,Yq,hx,Vx,Eg.cells,Zc,Ux,k4,k5];exact XL
        ·obtain rfl:k=c.length:=by omega
         have rA:decide (0<c.length)=true:=by simpa using Yy
         rcases hW.g2 rfl c0 SP with k4|k5
         ·simp-dsimp[YE,Z5,SP,rA,Eg.cells,Zc,k4,O7]
         ·simp-dsimp[YE,Z5,SP,rA,Eg.cells,Zc,k5,O7]
    ·have Vp:i=5:=by omega
     subst Vp;simp-dsimp[XK]
 ·have OW:Yp (Y8 h)=false:=NG.2 hs;simp-dsimp[OW]
end Go.Rt
end
