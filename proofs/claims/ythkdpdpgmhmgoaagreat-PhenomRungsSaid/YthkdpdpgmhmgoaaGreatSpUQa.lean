/- Contracts of functions of the program, and what they lean on. Conditions: those of each theorem. -/
import Derived.Test.YthkdpdpgmhmgoaaGreatSpUF

set_option linter.unusedVariables false
set_option linter.unusedSimpArgs false
set_option maxHeartbeats 64000000
set_option maxRecDepth 100000
open List renaming mem_cons->a2E,not_mem_nil->b8w

section
namespace Go.Rt
open Go.Vm
def c3b(b a f g:Nat):List OpQ:=[(a, .ld (.tmp b) (some 3),[]),(a+1, .call f ([a].map Operand.tmp),[a]),(a+2, .ld (.tmp b) (some 3),[]),(a+3, .call g ([a+2].map Operand.tmp),[a+2])]
def GG(h:Hs)(b a:Nat)(x y:AV)(t:Nat):AV:=if t=a then h.av else if t=a+1 then x else if t=a+2 then h.av else if t=a+3 then y else if t=b then .ptr b 0 else .junk
theorem c5b{h:Hs}{b a f g:Nat}{x y:List Eg}{z:Bool}{t fin:VT}{fr:List (Nat×AV)}{K:St->Prop}
 (hf:ZU prog false f [h.av] [] (.iv (Z5 x)) []) (hg:ZU prog false g [h.av] [] (.iv (Z5 y)) []) (hz:ZU prog true XE [.iv (Z5 x), .iv (Z5 y)] [] (vb z) [])
 (hb:Vm.look fr b=some (.ptr b 0)) (hba:b<a) (h0:∀t,a<=t->Vm.look fr t=none)
 (hc:Od (c3b b a f g) (a+4) (.call XE [.tmp (a+1), .tmp (a+3)]) t []=true) (ht:∀t',t'∈D2 (a+4) t->t'=fin)
 (hk:Uc prog fin ⟨(a+4,vb z)::(a+1, .iv (Z5 x))::(a+3, .iv (Z5 y))::fr,[(b, .box [.iv (.Z6 1 (Zd h.tables)), .iv (.Z6 22 (Zi h.events)), .iv (.Z6 5 (Zh h.order))])]⟩ K):
 Uc prog t ⟨fr,[(b, .box [.iv (.Z6 1 (Zd h.tables)), .iv (.Z6 22 (Zi h.events)), .iv (.Z6 5 (Zh h.order))])]⟩ K:=by
 have UN:([h.av]:List AV).all AV.plain=true:=rfl
 have Xw:∀d,b<d->Vm.look [(b,Ob.box [.iv (.Z6 1 (Zd h.tables)), .iv (.Z6 22 (Zi h.events)), .iv (.Z6 5 (Zh h.order))])] d=none:=fun d hd=>by simp only[Vm.look];rw[if_neg (by omega)]
 refine b7x (s0:=⟨fr,_⟩) (F:=GG h b a (.iv (Z5 x)) (.iv (Z5 y))) (ops:=c3b b a f g) (fin:=fin) ?_ ?_ t [] _ ⟨rfl,fun _=>by simp⟩ (fun t ht=>by simp at ht) hc ht
 ·intro q hq;simp only[c3b,a2E,b8w,or_false]at hq
  have hbF:GG h b a (.iv (Z5 x)) (.iv (Z5 y)) b= .ptr b 0:=by
   unfold GG;rw[if_neg (by omega),if_neg (by omega),if_neg (by omega),if_neg (by omega),if_pos rfl]
  have T4:St.get ⟨fr,[(b,Ob.box [.iv (.Z6 1 (Zd h.tables)), .iv (.Z6 22 (Zi h.events)), .iv (.Z6 5 (Zh h.order))])]⟩ b= .ptr b 0:=by simp[St.get,hb]
  rcases hq with rfl|rfl|rfl|rfl
  ·exact pj (id:=b) (off:=0) (cs:=[.iv (.Z6 1 (Zd h.tables)), .iv (.Z6 22 (Zi h.events)), .iv (.Z6 5 (Zh h.order))]) (by simp[GG,Hs.av]) (by simp[Vm.look]) (by simp) (.inr ⟨T4,hbF⟩)
  ·exact b1y hf (by simp[GG]) (by simp[GG]) UN (Xw _ (by omega)) rfl
  ·exact pj (id:=b) (off:=0) (cs:=[.iv (.Z6 1 (Zd h.tables)), .iv (.Z6 22 (Zi h.events)), .iv (.Z6 5 (Zh h.order))]) (by simp[GG,Hs.av]) (by simp[Vm.look]) (by simp) (.inr ⟨T4,hbF⟩)
  ·exact b1y hg (by simp[GG]) (by simp[GG]) UN (Xw _ (by omega)) rfl
 ·intro S s hs hS Zt;simp only[ZP]
  show NC prog (a+4) XE [] [.tmp (a+1), .tmp (a+3)] [] none s _
  have hle:=hs.le [a+1,a+3] (fun t ht=>by
   simp only[c3b,List.all_cons,List.all_nil,Bool.and_true,Bool.and_eq_true]at Zt;simp only[List.contains_cons,List.contains_nil,Bool.or_false,Bool.or_eq_true,beq_iff_eq]at ht
   rcases ht with rfl|rfl
   ·exact Zt.2.1
   ·exact Zt.2.2.2) (fun t h1 _=>by
    obtain⟨q,hq,rfl⟩:=hS t h1;simp only[c3b,a2E,b8w,or_false]at hq
    have:a<=q.1:=by rcases hq with rfl|rfl|rfl|rfl<;>simp
    simp only[St.get,h0 q.1 this,Option.getD_none])
  refine o9 hle ?_;refine Zu hz ?_ (by simp[Z5]) ?_
  ·rw[b0y (Xw _ (by omega))];simp[b5x,St.args,St.ev,St.get,Vm.look,GG,St.arg,St.arg1]
  ·rw[b0y (Xw _ (by omega))];simpa[b5x,GG]using hk
theorem c6b{h:Hs}(ZY:h.Ok)(Xp:h.Rg):ZU prog true r8 [h.av] [] (vb true) []:=by
 refine YD ov (by simp[Hs.av]) (by decide) rfl ?_;simp-dsimp[a5n,Hs.av, -PX, -RG, -Tj, -VR, -Wv];refine Zu e7l (by simp) (by simp) ?_;simp-dsimp[-PX, -RG, -Tj, -VR, -Wv];refine Zu (e8l ZY) (by simp[Hs.av]) (by simp[Hs.av]) ?_
 by_cases hs:Y8 h
 ·by_cases hf:(YV h).length<=14
  ·have YL:(Yp (Y8 h)&&decide ((YV h).length<=14))=true:=by rw[Rn.2 hs,decide_eq_true hf];rfl
   have hm:=qA hs
   have hz:∀l:List Eg,l.length<2^62->ZU prog true XE [.iv (Z5 l), .iv (Z5 l)] [] (vb true) []:=fun l hl=>by
    have:=d6D l l hl;rwa [decide_eq_true rfl]at this
   simp-dsimp[YL, -PX, -RG, -Tj, -VR, -Wv]
   refine c5b (b:=1) (a:=17) (x:=ZL (YV h) [1] [1]) (y:=ZL (YV h) [1] [1]) (z:=true) (fin:= .op (oo 5 (.Td (.tmp 21))) .done) (d3u ZY Xp hm) (d8u ZY hm) (hz _ (by have:=Eb (l:=YV h) (fs:=[1]) (rs:=[1]);omega)) rfl (by decide) (fun t ht=>by simp only[Vm.look];repeat rw[if_neg (by omega)]) (by kernel_rfl) (b3y (by kernel_rfl)) ?_
   simp-dsimp[-RG, -Tj, -VR, -Wv]
   refine c5b (b:=1) (a:=22) (x:=ZL (YV h) [1,2,3] [1,2,3]) (y:=ZL (YV h) [1,2,3] [1,2,3]) (z:=true) (fin:= .op (oo 6 (.Td (.tmp 26))) .done) (d4u ZY Xp hm) (d9u ZY hm) (hz _ (by have:=Eb (l:=YV h) (fs:=[1,2,3]) (rs:=[1,2,3]);omega)) rfl (by decide) (fun t ht=>by simp only[Vm.look];repeat rw[if_neg (by omega)]) (by kernel_rfl) (b3y (by kernel_rfl)) ?_
   simp-dsimp[-Tj, -VR, -Wv];refine c5b (b:=1) (a:=27) (x:=Xb (YV h) (YV h)) (y:=Xb (YV h) (YV h)) (z:=true) (fin:= .op (oo 7 (.Td (.tmp 31))) .done) (d2c ZY Xp hm) (d4c ZY hm) (hz _ (by have:=b4n (es:=YV h);omega)) rfl (by decide) (fun t ht=>by simp only[Vm.look];repeat rw[if_neg (by omega)]) (by kernel_rfl) (b3y (by kernel_rfl)) ?_
   simp-dsimp[-VR, -Wv]
   refine c5b (b:=1) (a:=32) (x:=ZL (YV h) [4] [1,2,3,4,5]) (y:=ZL (YV h) [4] [1,2,3,4,5]) (z:=true) (fin:= .op (oo 8 (.Td (.tmp 36))) .done) (d5u ZY Xp hm) (d0v ZY hm) (hz _ (by have:=Eb (l:=YV h) (fs:=[4]) (rs:=[1,2,3,4,5]);omega)) rfl (by decide) (fun t ht=>by simp only[Vm.look];repeat rw[if_neg (by omega)]) (by kernel_rfl) (b3y (by kernel_rfl)) ?_
   simp-dsimp[-Wv]
   refine c5b (b:=1) (a:=37) (x:=ZL (YV h) [4,5] [1,2,3,4,5]) (y:=ZL (YV h) [4,5] [1,2,3,4,5]) (z:=true) (fin:= .op (oo 9 (.Td (.tmp 41))) .done) (d6u ZY Xp hm) (d1v ZY hm) (hz _ (by have:=Eb (l:=YV h) (fs:=[4,5]) (rs:=[1,2,3,4,5]);omega)) rfl (by decide) (fun t ht=>by simp only[Vm.look];repeat rw[if_neg (by omega)]) (by kernel_rfl) (b3y (by kernel_rfl)) ?_
   simp-dsimp
  ·have OW:(Yp (Y8 h)&&decide ((YV h).length<=14))=false:=by rw[decide_eq_false hf,Bool.and_false]
   simp-dsimp[OW]
 ·have OW:(Yp (Y8 h)&&decide ((YV h).length<=14))=false:=by rw[NG.2 hs];rfl
  simp-dsimp[OW]
end Go.Rt
end
