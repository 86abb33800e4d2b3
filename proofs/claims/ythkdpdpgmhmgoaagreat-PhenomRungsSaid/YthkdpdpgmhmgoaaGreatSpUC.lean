/- Contracts of functions of the program, and what they lean on. Conditions: those of each theorem. -/
import Derived.Test.YthkdpdpgmhmgoaaGreatSpUB
import Derived.ProofKit
import Derived.WalkKit
import Derived.OpenShut
import Derived.ShutString
import Derived.ChangeOld
import Derived.Below
import Derived.Carry
import Derived.Test.YthkdpdpgmhmgoaaGreatProg
import Derived.Sort.Grow
import Derived.Lib.SlicesCompact

set_option linter.unusedVariables false
set_option linter.unusedSimpArgs false
set_option maxHeartbeats 64000000
set_option maxRecDepth 100000
open Array renaming getElem?_toList->a9C,getD_eq_getD_getElem?->a4E,getElem?_eq_getElem->a2S,getElem?_modify->a1Q,size_mapIdx->c4H
open Bool renaming and_eq_true->a4C,eq_iff_iff->b3S,or_false->c5T
open ByteArray.mk renaming injEq->d8R
open Classical renaming choose->b6u,choose_spec->b5P,propDecidable->b7p,byContradiction->a9M
open Function renaming comp_def->b8q
open Iff renaming rfl->c0L
open Int renaming toNat_natCast->c2z
open List renaming all_cons->b4x,mem_cons_self->a8C,mem_cons_of_mem->a2C,mem_cons->a2E,all_eq_true->a0E,any_eq_true->b4o,map_cons->a0G,getElem?_map->a0C,mem_of_getElem?->a8y,map_congr_left->b5s,map_map->b6S,map_id->d2f,mem_append->a1E,mapM_cons->a3N,getElem?_cons_zero->a9E,getD->a7V,getElem?_append_left->a1N,nil_append->c9n,contains_eq_mem->d6f,mem_append_left->a6O,length_map->a6S,range->a0I,getElem?_eq_some_iff->a7y,mem_map->a3E,getElem?_of_mem->a9B,getElem?_cons_succ->a2I,append_nil->b2y,replicate->a6R,filter_cons->a0V,contains_iff_mem->a0N,map_nil->a8U,any_cons->c2H,mem_filter->a0F,getElem?_eq_getElem->a3I,length_pos_iff->a6I,size_toArray->b8S,findIdx?_eq_some_iff_getElem->c3H,findIdx?_eq_none_iff->c0T,take->a7U,drop->c3R,take_of_length_le->a2B,take_add_one->a1J,length_append->a7J,mem_singleton->a2z,cons_append->c6h,map_append->a6M,find?_append->c6H,find?->d4S,find?_eq_none->b4w,nodup_cons->b0q,find?_cons->c8B,mem_range->a4U,flatMap_cons->a6V,mem_flatMap->a2N,mem_of_find?_eq_some->a8V,nodup_append->b5m,length_singleton->c9E,foldl_append->a3U
open Nat renaming zero_le->c4u,le_refl->a8F,le_add_right->d8z,add_assoc->b3P,zero_add->b4s,sub_zero->d8Q,add_zero->b1P
open Option renaming bind_eq_some_iff->b2q,map_eq_some_iff->a1S,getD_some->a2L,map_some->a4G,none_or->d2v
open Option.some renaming injEq->a5y
open Prod renaming fst->d8S

section
namespace Go.Vm
def LB(W:St->YC->Prop)(s:St)(O:YC):Prop:=
 ∃I:Nat->St->Prop,Jk s (fun s'=>∃k,I k s')/\∀k s',I k s'->W s' {O with n:=fun s2=>∃m s3,m<k/\Le s2 s3/\I m s3}
def X5(P:Program):Z9->St->YC->Prop
 | .skip,s,O=>O.n s
 | .E7 ops,s,O=>Uy P ops s O.n
 | .any t,s,O=>Uc P t s O.n
 | .seq a b,s,O=>X5 P a s {O with n:=fun s'=>X5 P b s' O}
 | .cond x t e,s,O=>match s.ev x with
  | .iv (.v (.bool b))=>(b=true->X5 P t s O)/\(b=false->X5 P e s O)
  | _=>False
 | .block id c,s,O=>X5 P c s {O with x:=fun j s'=>if j=id then O.n s' else O.x j s'}
 | .loop c,s,O=>LB (X5 P c) s O
 | .exit id,s,O=>O.x id s
 | .ret,s,O=>O.r s
 | .goto l,s,O=>O.g l s
 | .scope c,s,O=>X5 P c s {O with g:=fun _ _=>False}
 | .WR c l r,s,O=>X5 P c s {O with g:=fun l' s'=>l'=l/\X5 P r s' {O with g:=fun _ _=>False}}
 | .QY g ps x y,s,O=>Ny P (X5 P x) (X5 P y) g ps s O
theorem SZ{P:Program}{n:Nat}(hn:n<=999):∀(c:Z9) (s:St) (O:YC),X5 P c s O->VC P n c s O
 | .skip,s,O,h=>c8F h
 | .E7 ops,s,O,h=>c4G hn h
 | .any t,s,O,h=>c5G hn h
 | .seq a b,s,O,h=>c3G ((SZ hn a s _ h).mono (fun s' h=>SZ hn b s' O h) (fun _ _ h=>h) (fun _ h=>h) (fun _ _ h=>h))
 | .cond x t e,s,O,h=>by
  simp only[X5]at h;split at h
  ·rename_i b hb;exact c6G hb (fun ht=>SZ hn t s O (h.1 ht)) (fun he=>SZ hn e s O (h.2 he))
  ·exact h.elim
 | .block id c,s,O,h=>c7G (SZ hn c s _ h)
 | .loop c,s,O,h=>by
  obtain⟨I,h0,hr⟩:=h
  exact c1H I h0 fun k s' hI=>SZ hn c s' _ (hr k s' hI)
 | .exit id,s,O,h=>c9F h
 | .ret,s,O,h=>c0G h
 | .goto l,s,O,h=>c1G h
 | .scope c,s,O,h=>c8G (SZ hn c s _ h)
 | .WR c l r,s,O,h=>c9G (fun s'=>X5 P r s' {O with g:=fun _ _=>False}) (SZ hn c s _ h) (fun s' h=>SZ hn r s' _ h)
 | .QY g ps x y,s,O,h=>e3r (e1r (fun s O h=>SZ hn x s O h) (fun s O h=>SZ hn y s O h) (fun h1 h2 h3 h4 h=>VC.mono h h1 h2 h3 h4) h)
theorem d6s{P:Program}{o:Yv}{s:St}{K K':St->Prop}(hK:∀s,K s->K' s)(YL:∀d (s:St) (K K':St->AV->Prop),(∀s x,K s x->K' s x)->∀r,ZP P d s K r->ZP P d s K' r)(h:V5 P o s K):V5 P o s K':=by
 unfold V5 at*;split at h
 ·exact YL _ _ _ _ (fun s x h=>hK _ h) _ h
 ·split at h
  ·exact⟨fun hc=>YL _ _ _ _ (fun s x h=>hK _ h) _ (h.1 hc),fun hc=>hK _ (h.2 hc)⟩
  ·exact hK _ h
  ·exact h.elim
section
variable{P:Program}{s s':St}{O:YC}
@[congr]theorem d7s{c:Z9}(h:s=s'):X5 P c s O=X5 P c s' O:=by rw[h]
@[congr]theorem d8s{l:List Yv}{K:St->Prop}(h:s=s'):Uy P l s K=Uy P l s' K:=by rw[h]
@[congr]theorem d9s{o:Yv}{K:St->Prop}(h:s=s'):V5 P o s K=V5 P o s' K:=by rw[h]
@[congr]theorem d0t{t:VT}{K:St->Prop}(h:s=s'):Uc P t s K=Uc P t s' K:=by rw[h]
@[congr]theorem d1t{d:Nat}{r:Wu}{K:St->AV->Prop}(h:s=s'):ZP P d s K r=ZP P d s' K r:=by rw[h]
@[congr]theorem d2t{W:St->YC->Prop}(h:s=s'):LB W s O=LB W s' O:=by rw[h]
@[congr]theorem d3t{d:Nat}{f:FuncId}{pre post:List Z3}{ops:List Operand}{y:Option Operand}{K:St->AV->Prop}(h:s=s'):
 LC P d f pre ops post y s K=LC P d f pre ops post y s' K:=by rw[h]
@[congr]theorem d4t{fr:Bool}{rs:List SL}{res:AV}{H':Hp}(h:s=s'):Ends fr rs res H' s=Ends fr rs res H' s':=by rw[h]
theorem St.set_mk(fr:List (Nat×AV))(hp:Hp)(d:Nat)(x:AV):St.set ⟨fr,hp⟩ d x=⟨(d,x)::fr,hp⟩:=rfl
end
/-! ### f1X that say less-/
def St.ZM(s:St)(D:List Nat):St:=D.foldl (fun s i=>s.drop i) s
theorem QZ(D:List Nat)(hD:D.all (· <1000)=true)(s:St):Le s (s.ZM D):=by
 induction D generalizing s with
 |nil=>exact Le.refl s
 |cons i D ih=>
  simp only[b4x,a4C,decide_eq_true_eq]at hD;refine Le.trans (fun E n a w h=>?_) (ih hD.2 (s.drop i));obtain⟨ψ,h⟩:=h;exact⟨ψ,h.drop hD.1⟩
theorem d6t{s s':St}(hf:∀t,s'.get t= .junk\/s'.get t=s.get t)(hh:∀id,look s'.hp id=look s.hp id):Le s s':=by
 rintro E n a w ⟨ψ,h⟩
 have hI:∀b,Im E ψ s.hp b->Im E ψ s'.hp b:=fun b hb=>⟨hb.1,fun hx=>hb.2 ((d6g hh b).1 hx)⟩
 have hk:Vt ψ ψ s.hp s'.hp:=fun id o ho=>⟨⟨o,by rw[hh];exact ho,o.le_refl⟩,rfl⟩
 refine⟨ψ,{h with defers:=h.defers.mono (fun b _ hb=>hI b hb) (fun _ _ _=>rfl),frame:=fun t=>?_,YH:=fun id o ho=>?_,inj:=fun id XP o o' b g1 g2=>?_,own:=fun id o b ho=>?_,Y0:=fun id o b ho=>?_}⟩
 ·rcases hf t with e|e
  ·rw[e];exact .junk _
  ·rw[e];exact(h.frame t).mono (fun b _ hb=>hI b hb) (fun _ _ _=>rfl) hk
 ·rw[hh]at ho;exact(h.YH id o ho).mono (fun b _ hb=>hI b hb) (fun _ _ _=>rfl) hk ⟨rfl,fun _ h=>h⟩ (fun _ _=>rfl)
 ·rw[hh]at g1 g2;exact h.inj id XP o o' b g1 g2
 ·rw[hh]at ho;exact h.own id o b ho
 ·rw[hh]at ho;exact h.Y0 id o b ho
theorem d7t{α:Type}:∀{l:List (Nat×α)} {k:Nat},(∀p∈l,p.1≠k)->look l k=none
 | [],_,_=>rfl
 |(j,y)::r,k,h=>by
  simp only[look];rw[if_neg (h (j,y) a8C)]
  exact d7t fun p hp=>h p (a2C _ hp)
def NB(s:St):List (Nat×AV)->Prop
 | []=>True
 |(t,x)::r=>s.get t=x/\NB s r
def R6(H:Hp):Hp->Prop
 | []=>True
 |(id,o)::r=>look H id=some o/\R6 H r
theorem d8t{s:St}:∀{l:List (Nat×AV)},NB s l->∀p∈l,s.get p.1=p.2
 | [],_,p,hp=>by cases hp
 |(t,x)::r,h,p,hp=>by
  rcases a2E.1 hp with rfl|hp
  ·exact h.1
  ·exact d8t h.2 p hp
theorem d9t{H:Hp}:∀{l:Hp},R6 H l->∀p∈l,look H p.1=some p.2
 | [],_,p,hp=>by cases hp
 |(t,x)::r,h,p,hp=>by
  rcases a2E.1 hp with rfl|hp
  ·exact h.1
  ·exact d9t h.2 p hp
def d0u(H:Hp)(l:Hp):Bool:=H.all fun p=>l.any fun q=>q.1==p.1
theorem f3m{H l:Hp}(h1:R6 H l)(h2:d0u H l=true)(id:Nat):look l id=look H id:=by
 cases hl:look l id with
 |some o=>exact(d9t h1 _ (Ez hl)).symm
 |none=>
  refine(d7t fun p hp e=>?_).symm;subst e;have:=a0E.1 h2 p hp;obtain⟨q,hq,e⟩:=b4o.1 this;simp only[beq_iff_eq]at e
  have:∀{l:Hp},q∈l->look l p.1≠none:=by
   intro l
   induction l with
   |nil=>intro h;cases h
   |cons x l ih=>
    obtain⟨j,y⟩:=x;intro h;simp only[look];split
    ·simp
    ·rcases a2E.1 h with rfl|h
     ·rename_i ZS;exact absurd e ZS
     ·exact ih h
  exact this hq hl
theorem f4g(D:List Nat){s s':St}(hD:D.all (· <1000)=true)(hf:NB (s.ZM D) s'.fr)(hh:R6 (s.ZM D).hp s'.hp)(hk:d0u (s.ZM D).hp s'.hp=true):Le s s':=by
 refine Le.trans (QZ D hD s) (d6t (fun t=>?_) (f3m hh hk))
 cases hl:look s'.fr t with
 |none=>left;simp[St.get,hl]
 |some x=>
  right;have:=d8t hf _ (Ez hl);simp only at this;rw[this];simp[St.get,hl]
structure Ren where
 to:Nat->Nat
 inv:Nat->Nat
 V9:∀x,to (inv x)=x
 Xh:∀x,inv (to x)=x
def Ren.back(ρ:Ren):Ren:=⟨ρ.inv,ρ.to,ρ.Xh,ρ.V9⟩
def sn(a b x:Nat):Nat:=if x=a then b else if x=b then a else x
theorem a6y(a b x:Nat):sn a b (sn a b x)=x:=by
 unfold sn
 by_cases h1:x=a
 ·subst h1
  by_cases h2:b=x
  ·subst h2;simp
  ·simp[h2]
 ·by_cases h2:x=b
  ·subst h2;simp[h1]
  ·simp[h1,h2]
def Ren.swap(a b:Nat):Ren:=⟨sn a b,sn a b,a6y a b,a6y a b⟩
def Ren.id:Ren:=⟨fun x=>x,fun x=>x,fun _=>rfl,fun _=>rfl⟩
def Ren.comp(ρ σ:Ren):Ren:=⟨fun x=>σ.to (ρ.to x),fun x=>ρ.inv (σ.inv x),fun x=>by simp[ρ.V9,σ.V9],fun x=>by simp[ρ.Xh,σ.Xh]⟩
def Ren.WD:List (Nat×Nat)->Ren
 | []=>Ren.id
 |(a,b)::r=>(Ren.swap a b).comp (Ren.WD r)
def Z3.Zk(ρ:Nat->Nat):Z3->Z3
 | .ptr id off=> .ptr (ρ id) off
 | .val x=> .val x
def AV.V8(ρ:Nat->Nat):AV->AV
 | .sl id sz lo len=> .sl (ρ id) sz lo len
 | .ptr id off=> .ptr (ρ id) off
 | .ep id sz i off=> .ep (ρ id) sz i off
 | .mpr id=> .mpr (ρ id)
 | .fn f a b=> .fn f (a.map (Z3.Zk ρ)) (b.map (Z3.Zk ρ))
 |x=>x
def AV.V7(ρ:Nat->Nat):AV->AV
 | .agg cs=> .agg (cs.map (AV.V8 ρ))
 |x=>x.V8 ρ
def AV.Zk(ρ:Nat->Nat):AV->AV
 | .Zp cs=> .Zp (cs.map (AV.V7 ρ))
 |x=>x.V7 ρ
def Ob.Zk(ρ:Nat->Nat):Ob->Ob
 | .box cs=> .box (cs.map (AV.V8 ρ))
 | .gh Z vs cs=> .gh Z vs (cs.map (AV.Zk ρ))
 | .YU org sz xs=> .YU (ρ org) sz xs
 |o=>o
def Hp.Zk(ρ:Nat->Nat)(H:Hp):Hp:=H.map fun p=>(ρ p.1,p.2.Zk ρ)
def Pl.Zk(ρ:Ren)(ψ:Pl):Pl:=⟨fun j=>ψ (ρ.inv j),fun j b=>ψ.sub (ρ.inv j) b⟩
def AV.Vv:AV->Bool
 | .agg _| .Zp _=>false
 | _=>true
def AV.VM:AV->Bool
 | .agg cs=>cs.all AV.Vv
 | .Zp _=>false
 | _=>true
def AV.W7:AV->Bool
 | .Zp cs=>cs.all AV.VM
 |x=>x.VM
def Ob.W7:Ob->Bool
 | .box cs=>cs.all AV.Vv
 | .gh _ _ cs=>cs.all AV.W7
 | _=>true
section
variable(ρ:Ren)
theorem EB(H:Hp)(id:Nat):look (H.Zk ρ.to) (ρ.to id)=(look H id).map (Ob.Zk ρ.to):=by
 induction H with
 |nil=>rfl
 |cons p H ih=>
  obtain⟨j,o⟩:=p;simp only[Hp.Zk,a0G,look]
  by_cases h:j=id
  ·subst h;simp
  ·rw[if_neg h,if_neg (fun e=>h (by have:=congrArg ρ.inv e;simpa[ρ.Xh]using this))]
   exact ih
theorem sm(H:Hp)(id:Nat):look (H.Zk ρ.to) id=(look H (ρ.inv id)).map (Ob.Zk ρ.to):=by
 have:=EB ρ H (ρ.inv id);rwa [ρ.V9]at this
theorem a9y(f:Nat->Nat)(o:Ob):(o.Zk f).dim=o.dim:=by cases o<;>rfl
theorem a0z(f:Nat->Nat)(o:Ob):(o.Zk f).multi=o.multi:=by cases o<;>rfl
theorem a1z(f:Nat->Nat)(o:Ob):(o.Zk f).Zl=o.Zl:=by cases o<;>rfl
theorem qz(ψ:Pl)(id:Nat):(ψ.Zk ρ) (ρ.to id)=ψ id:=by simp[Pl.Zk,ρ.Xh]
theorem a3z(ψ:Pl)(id b:Nat):Z2 (ψ.Zk ρ) (ρ.to id) b↔Z2 ψ id b:=by simp[Z2,Pl.Zk,ρ.Xh]
variable{A:Nat->Prop}{ψ:Pl}{H:Hp}{w:World}
theorem Xg.Zk{c:Z3}{v:Value}(h:Xg A ψ H w c v):Xg A (ψ.Zk ρ) (H.Zk ρ.to) w (c.Zk ρ.to) v:=by
 cases h with
 |ptr id off b k o ho hb=>exact .ptr (ρ.to id) off b k (o.Zk ρ.to) (by rw[EB,ho];rfl) (by rw[qz];exact hb)
 |val x v h=>exact .val x v h
theorem ZK.V8{x:AV}{v:Value}(h:ZK A ψ H w x v)(hs:x.Vv=true):ZK A (ψ.Zk ρ) (H.Zk ρ.to) w (x.V8 ρ.to) v:=by
 cases h with
 |iv x v h=>exact .iv x v h
 |nil sz=>exact .nil sz
 |U4 id sz o n ho he hb=>exact .U4 (ρ.to id) sz (o.Zk ρ.to) n (by rw[EB,ho];rfl) (by rw[a9y];exact he) (by rw[qz];exact hb)
 |sl id sz lo len b k cap a o n ho he hx hb ha UO hk hm=>
  exact .sl (ρ.to id) sz lo len b k cap a (o.Zk ρ.to) n (by rw[EB,ho];rfl) (by rw[a9y];exact he) hx (by rw[qz];exact hb) ha UO hk hm
 |ptr id off b k o ho hb=>exact .ptr (ρ.to id) off b k (o.Zk ρ.to) (by rw[EB,ho];rfl) (by rw[qz];exact hb)
 |ep id sz i off b k o n ho he hi hb=>exact .ep (ρ.to id) sz i off b k (o.Zk ρ.to) n (by rw[EB,ho];rfl) (by rw[a9y];exact he) hi (by rw[qz];exact hb)
 |mpr id b k o ho hb=>exact .mpr (ρ.to id) b k (o.Zk ρ.to) (by rw[EB,ho];rfl) (by rw[qz];exact hb)
 |fn f first caps vf vc hf hc h1 h2=>
  refine .fn f _ _ vf vc (by simpa using hf) (by simpa using hc) (fun i c h=>?_) (fun i c h=>?_)<;>rw[a0C]at h
  ·cases hi:first[i]? with
   |none=>rw[hi]at h;cases h
   |some c0=>rw[hi]at h;cases h;exact(h1 i c0 hi).Zk ρ
  ·cases hi:caps[i]? with
   |none=>rw[hi]at h;cases h
   |some c0=>rw[hi]at h;cases h;exact(h2 i c0 hi).Zk ρ
 |agg cs vs hl h=>cases hs
 |Zp cs vs hl h=>cases hs
 |un=>exact .un
 |junk v=>exact .junk v
theorem ZK.V7{x:AV}{v:Value}(h:ZK A ψ H w x v)(hs:x.VM=true):ZK A (ψ.Zk ρ) (H.Zk ρ.to) w (x.V7 ρ.to) v:=by
 cases x with
 |agg cs=>
  cases h with
  |agg cs vs hl h=>
   refine .agg _ vs (by simpa using hl) fun i c hc=>?_
   rw[a0C]at hc
   cases hi:cs[i]? with
   |none=>rw[hi]at hc;cases hc
   |some c0=>rw[hi]at hc;cases hc;exact(h i c0 hi).V8 ρ (a0E.1 hs c0 (a8y hi))
 |Zp cs=>cases hs
 | _=>exact h.V8 ρ rfl
theorem ZK.Zk{x:AV}{v:Value}(h:ZK A ψ H w x v)(hs:x.W7=true):ZK A (ψ.Zk ρ) (H.Zk ρ.to) w (x.Zk ρ.to) v:=by
 cases x with
 |Zp cs=>
  cases h with
  |Zp cs vs hl h=>
   refine .Zp _ vs (by simpa using hl) fun i c hc=>?_
   rw[a0C]at hc
   cases hi:cs[i]? with
   |none=>rw[hi]at hc;cases hc
   |some c0=>rw[hi]at hc;cases hc;exact(h i c0 hi).V7 ρ (a0E.1 hs c0 (a8y hi))
 | _=>exact h.V7 ρ hs
theorem Xa.Zk{id:Nat}{o:Ob}(h:Xa A ψ H w id o)(hs:o.W7=true):Xa A (ψ.Zk ρ) (H.Zk ρ.to) w (ρ.to id) (o.Zk ρ.to):=by
 have Wn:(ψ.Zk ρ) (ρ.to id)=ψ id:=qz ρ ψ id
 have Y7:∀b,ψ.sub id b->(ψ.Zk ρ).sub (ρ.to id) b:=fun b hb=>by simpa[Pl.Zk,ρ.Xh]using hb
 cases o with
 |box cs=>
  obtain⟨b,c,e,h1,h2,h3,h4⟩:=h;refine⟨b,c,e,by rw[Wn];exact h1,h2,by simpa using h3,fun i x hx=>?_⟩;rw[a0C]at hx
  cases hi:cs[i]? with
  |none=>rw[hi]at hx;cases hx
  |some c0=>rw[hi]at hx;cases hx;exact(h4 i c0 hi).V8 ρ (a0E.1 hs c0 (a8y hi))
 |list sz xs=>
  obtain⟨h0,h⟩:=h;refine⟨h0,?_⟩
  rcases h with⟨h1,h2⟩|⟨b,k,c,e,h1,h2⟩
  ·exact .inl ⟨by rw[Wn];exact h1,h2⟩
  ·exact .inr ⟨b,k,c,e,by rw[Wn];exact h1,h2⟩
 |YU org sz xs=>
  obtain⟨h0,h⟩:=h;refine⟨h0,?_⟩
  rcases h with⟨h1,h2⟩|⟨b,k,c,e,h1,h2⟩
  ·exact .inl ⟨by rw[Wn];exact h1,h2⟩
  ·exact .inr ⟨b,k,c,e,by rw[Wn];exact h1,h2⟩
 |map sk g=>obtain⟨b,es,clock,h1,h2⟩:=h;exact⟨b,es,clock,by rw[Wn];exact h1,h2⟩
 |WT sk g n kk=>obtain⟨b,es,clock,h1,h2⟩:=h;exact⟨b,es,clock,by rw[Wn];exact h1,h2⟩
 |YJ sk sz g hole=>
  obtain⟨b,es,clock,pl,h1,h2,h3,h4,h5,h6,h7,h8,h9,U0,TD⟩:=h;exact⟨b,es,clock,pl,by rw[Wn];exact h1,h2,h3,h4,h5,h6,h7,h8,h9,fun k xs b' q g1 g2=>Y7 _ (U0 k xs b' q g1 g2),TD⟩
 |ZI sz xs hole=>
  obtain⟨h0,b,k,c,e,pl,h1,h2,h3,h4,h5,h6,h7⟩:=h;exact⟨h0,b,k,c,e,pl,by rw[Wn];exact h1,h2,h3,h4,h5,fun i x b' q g1 g2 g3=>Y7 _ (h6 i x b' q g1 g2 g3),h7⟩
 |iter sk g left last=>obtain⟨b,m,si,st,la,h1,h2⟩:=h;exact⟨b,m,si,st,la,by rw[Wn];exact h1,h2⟩
 |gh Z vs cs=>
  obtain⟨h1,h2,h3,h4⟩:=h;refine⟨by rw[Wn];exact h1,h2.mono (fun _ _ h=>h) Y7 (fun _ _ _=>rfl) (fun _ _=>rfl),by simpa using h3,fun i x hx=>?_⟩
  rw[a0C]at hx
  cases hi:cs[i]? with
  |none=>rw[hi]at hx;cases hx
  |some c0=>rw[hi]at hx;cases hx;exact(h4 i c0 hi).Zk ρ (a0E.1 hs c0 (a8y hi))
end
/-! ### IG and back-/
theorem a4z(ρ:Ren)(c:Z3):(c.Zk ρ.to).Zk ρ.inv=c:=by cases c<;>simp[Z3.Zk,ρ.Xh]
theorem a5z(ρ:Ren)(x:AV):(x.V8 ρ.to).V8 ρ.inv=x:=by
 cases x<;>simp[AV.V8,ρ.Xh]
 constructor
 ·rw[b5s (g:=id) (fun c _=>by simp[a4z])];simp
 ·rw[b5s (g:=id) (fun c _=>by simp[a4z])];simp
theorem a6z{α:Type}{f g:α->α}(h:∀x,g (f x)=x)(l:List α):(l.map f).map g=l:=by
 rw[b6S];have:g∘f=id:=funext h;rw[this,d2f]
theorem a7z(f:Nat->Nat){x:AV}(h:∀cs,x≠ .agg cs):x.V7 f=x.V8 f:=by cases x<;>first|rfl|exact absurd rfl (h _)
theorem a8z(f:Nat->Nat){x:AV}(h:∀cs,x≠ .Zp cs):x.Zk f=x.V7 f:=by cases x<;>first|rfl|exact absurd rfl (h _)
theorem a9z(f:Nat->Nat){x:AV}(h:∀cs,x≠ .agg cs):∀cs,x.V8 f≠ .agg cs:=by cases x<;>first|exact absurd rfl (h _)|(intro cs e;cases e)
theorem a0A(f:Nat->Nat){x:AV}(h:∀cs,x≠ .Zp cs):∀cs,x.V7 f≠ .Zp cs:=by cases x<;>first|exact absurd rfl (h _)|(intro cs e;cases e)
theorem a1A(ρ:Ren)(x:AV):(x.V7 ρ.to).V7 ρ.inv=x:=by
 by_cases h:∃cs,x= .agg cs
 ·obtain⟨cs,rfl⟩:=h;simp only[AV.V7,a6z (a5z ρ)]
 ·have h:∀cs,x≠ .agg cs:=fun cs e=>h ⟨cs,e⟩
  rw[a7z _ h,a7z _ (a9z _ h),a5z]
theorem a2A(ρ:Ren)(x:AV):(x.Zk ρ.to).Zk ρ.inv=x:=by
 by_cases h:∃cs,x= .Zp cs
 ·obtain⟨cs,rfl⟩:=h;simp only[AV.Zk,a6z (a1A ρ)]
 ·have h:∀cs,x≠ .Zp cs:=fun cs e=>h ⟨cs,e⟩
  rw[a8z _ h,a8z _ (a0A _ h),a1A]
theorem a3A(ρ:Ren)(o:Ob):(o.Zk ρ.to).Zk ρ.inv=o:=by
 cases o<;>first|rfl|simp[Ob.Zk,ρ.Xh, -b6S,a6z (a5z ρ),a6z (a2A ρ)]
theorem a4A(ρ:Ren)(H:Hp):(H.Zk ρ.to).Zk ρ.inv=H:=by
 induction H with
 |nil=>rfl
 |cons p H ih=>
  obtain⟨id,o⟩:=p;simp only[Hp.Zk,a0G,ρ.Xh,a3A]at ih⊢;rw[ih]
theorem a5A(f:Nat->Nat)(x:AV):(x.V8 f).Vv=x.Vv:=by cases x<;>rfl
theorem a6A(f:Nat->Nat)(x:AV):(x.V7 f).VM=x.VM:=by
 cases x<;>first|rfl|simp[AV.V7,AV.VM,b8q,a5A]
theorem a7A(f:Nat->Nat)(x:AV):(x.Zk f).W7=x.W7:=by
 cases x with
 |Zp cs=>simp[AV.Zk,AV.W7,b8q,a6A]
 |agg cs=>exact a6A f (.agg cs)
 | _=>rfl
theorem a8A(f:Nat->Nat)(o:Ob):(o.Zk f).W7=o.W7:=by
 cases o<;>first|rfl|simp[Ob.Zk,Ob.W7,b8q,a5A,a7A]
theorem a9A(ρ:Ren)(ψ:Pl)(H:Hp)(b:Nat):ZD (ψ.Zk ρ) (H.Zk ρ.to) b↔ZD ψ H b:=by
 constructor
 ·rintro⟨id,o,h1,h2⟩;rw[sm]at h1;obtain⟨o',h3,rfl⟩:=Vy h1;exact⟨ρ.inv id,o',h3,h2⟩
 ·rintro⟨id,o,h1,h2⟩;exact⟨ρ.to id,o.Zk ρ.to,by rw[EB,h1];rfl,(a3z ρ ψ id b).2 h2⟩
theorem ZU.Zk{P:Program}{fr:Bool}{f:FuncId}{args:List AV}{H:Hp}{res:AV}{H':Hp}(h:ZU P fr f args H res H')(ρ:Ren)
 (hs:(args.all AV.W7&&res.W7&&(H++H').all (fun p=>p.2.W7))=true):
 ZU P fr f (args.map (AV.Zk ρ.to)) (H.Zk ρ.to) (res.Zk ρ.to) (H'.Zk ρ.to):=by
 simp only[a4C,List.all_append,a0E]at hs;obtain⟨⟨EA,TM⟩,hs3,hs4⟩:=hs;obtain⟨⟨SJ,MG⟩,h⟩:=h
 have YU:∀{H:Hp},(∀id o,look H id=some o->o.Zl=false)->∀id o,look (H.Zk ρ.to) id=some o->o.Zl=false:=by
  intro H hl id o ho;rw[sm]at ho;obtain⟨o',h3,rfl⟩:=Vy ho;rw[a1z];exact hl _ _ h3
 refine⟨⟨YU SJ,YU MG⟩,?_⟩;intro A ψ w vs hA Uh hinj Ue Vu hlen Q7
 let ψ0:Pl:=ψ.Zk ρ.back
 have Wn:ψ0.Zk ρ=ψ:=by
  obtain⟨m,s⟩:=ψ;simp only[ψ0,Pl.Zk,Ren.back,ρ.V9]
 have Xw:∀id o,look H id=some o->look (H.Zk ρ.to) (ρ.to id)=some (o.Zk ρ.to):=fun id o ho=>by rw[EB,ho];rfl
 have shH:∀{H:Hp},(∀x∈H,x.2.W7=true)->∀id o,look H id=some o->o.W7=true:=fun hh id o ho=>hh _ (Ez ho)
 have Wk:=h A ψ0 w vs hA
  (fun id o ho=>by
   have:=(Uh _ _ (Xw id o ho)).Zk ρ.back (by rw[a8A];exact shH hs3 id o ho);have e1:ρ.back.to (ρ.to id)=id:=ρ.Xh id;have e2:(o.Zk ρ.to).Zk ρ.back.to=o:=a3A ρ o;have e3:(H.Zk ρ.to).Zk ρ.back.to=H:=a4A ρ H;rw[e1,e2,e3]at this
   exact this)
  (fun id XP o o' b h1 h2 h3 h4=>by
   have e:=hinj (ρ.to id) (ρ.to XP) _ _ b (Xw id o h1) (Xw XP o' h2) h3 h4;have:=congrArg ρ.inv e
   simpa[ρ.Xh]using this)
  (fun id o b h1 h2=>by
   obtain⟨q1,q2,q3⟩:=Ue (ρ.to id) _ b (Xw id o h1) h2;rw[a0z]at q1
   exact⟨q1,q2,q3⟩)
  (fun b hb=>Vu b (by have:=(a9A ρ ψ0 H b).2 hb;rw[Wn]at this;exact this))
  (by simpa using hlen)
  (fun i x hx=>by
   have h1:=Q7 i (x.Zk ρ.to) (by rw[a0C,hx];rfl);have:=h1.Zk ρ.back (by rw[a7A];exact EA x (a8y hx))
   have e2:(x.Zk ρ.to).Zk ρ.back.to=x:=a2A ρ x;have e3:(H.Zk ρ.to).Zk ρ.back.to=H:=a4A ρ H;rw[e2,e3]at this
   exact this)
 refine Wk.mono ?_;rintro e w' ⟨v,ZF,rfl,k1,k2,k3,k4,k5,k6,kS,k7,k8⟩;have IF:∀b,ZD (ZF.Zk ρ) (H'.Zk ρ.to) b↔ZD ZF H' b:=a9A ρ ZF H'
 refine⟨v,ZF.Zk ρ,rfl,fun b hb hh=>k1 b hb fun hx=>hh (by have:=(a9A ρ ψ0 H b).2 hx;rw[Wn]at this;exact this),k2,k3,fun id o ho=>?_,fun id o b ho hb=>?_,fun id XP o o' b h1 h2 h3 h4=>?_,fun id o b h1 h2=>?_,fun id o ho=>?_,?_⟩
 ·rw[sm]at ho;obtain⟨o',h3,rfl⟩:=Vy ho;have:=k4 _ _ h3
  show ZF (ρ.inv id)=ψ id
  rw[this]
  show ψ (ρ.to (ρ.inv id))=ψ id
  rw[ρ.V9]
 ·rw[sm]at ho;obtain⟨o',h3,rfl⟩:=Vy ho
  rcases k5 _ _ b h3 hb with⟨o0,q1,q2⟩|q
  ·left;refine⟨o0.Zk ρ.to,by rw[sm,q1];rfl,?_⟩;have:=(a3z ρ ψ0 (ρ.inv id) b).2 q2;rw[Wn,ρ.V9]at this;exact this
  ·exact .inr q
 ·rw[sm]at h1 h2;obtain⟨o1,q1,rfl⟩:=Vy h1;obtain⟨o2,q2,rfl⟩:=Vy h2;have e:=k6 _ _ _ _ b q1 q2 h3 h4;have:=congrArg ρ.to e;simpa[ρ.V9]using this
 ·rw[sm]at h1;obtain⟨o1,q1,rfl⟩:=Vy h1;obtain⟨r1,r2,r3⟩:=kS _ _ b q1 h2;exact⟨by rw[a0z];exact r1,r2,r3⟩
 ·rw[sm]at ho;obtain⟨o1,q1,rfl⟩:=Vy ho;have:=(k7 _ _ q1).Zk ρ (shH hs4 _ _ q1);rw[ρ.V9]at this;refine this.mono (fun b _ hb=>⟨hb.1,fun hh=>hb.2 ((IF b).1 hh)⟩) (fun _ _ _=>rfl) (Vt.refl _ _) ⟨rfl,fun _ h=>h⟩ (fun _ _=>rfl)
 ·exact(k8.Zk ρ TM).mono (fun b _ hb=>⟨hb.1,fun hh=>hb.2 ((IF b).1 hh)⟩) (fun _ _ _=>rfl) (Vt.refl _ _)
def d6r(P:Program):List Field->Nat->Option Nat
 | [],o=>some o
 |f::r,o=>if f.offset=o then d6r P r (o+P.cellsOf f.type)else none
def d7r(P:Program)(S:List TypeId):Bool:=S.all fun t=>match P.underlying t with
 |some .bool|some (.int _)|some .string=>decide (P.cellsOf t=1)
 |some (.slice e)=>decide (P.cellsOf t=1)&&S.contains e&&decide (0<P.cellsOf e)
 |some (.struct fs)=>fs.toList.all (fun f=>S.contains f.type)&&decide (d6r P fs.toList 0=some (P.cellsOf t))
 | _=>false
def Vz(P:Program):Nat->TypeId->List IV->Prop
 | 0,_,_=>False
 |f+1,t,cs=>match P.underlying t with
  |some .bool=>∃b,cs=[.v (.bool b)]
  |some (.int k)=>∃n,cs=[.v (.int k n)]/\(Lit.int k n).wf=true
  |some .string=>∃s:ByteArray,cs=[.v (.string s)]/\s.size<=maxLen
  |some (.slice e)=>∃xs,cs=[.Z6 (P.cellsOf e) xs]/\xs.length<=maxLen/\∀x∈xs,Vz P f e x
  |some (.struct fs)=>cs.length=P.cellsOf t/\∀WJ∈fs.toList,Vz P f WJ.type ((cs.drop WJ.offset).take (P.cellsOf WJ.type))
  | _=>False
def Jr(P:Program):Nat->TypeId->List IV->Prop
 | 0,_,_=>False
 |f+1,t,cs=>match P.underlying t with
  |some (.slice e)=>∃xs,cs=[.Z6 (P.cellsOf e) xs]/\xs.length*P.bytesOf e<=reachBytes/\∀x∈xs,Jr P f e x
  |some (.struct fs)=>∀WJ∈fs.toList,Jr P f WJ.type ((cs.drop WJ.offset).take (P.cellsOf WJ.type))
  | _=>True
theorem d8r{H:Type}{P:Program}:∀{ts:List TypeId} {ds:List (DataW H)} {i:Nat} {t:TypeId} {d:DataW H},ts[i]? =some t->ds[i]? =some d->∀n∈d.weights P t,n∈DataW.weightsEach P ts ds
 | [],_,i,t,d,h,_,_,_=>by simp at h
 | _::_,[],i,t,d,_,h,_,_=>by simp at h
 |t0::ts,d0::ds,i,t,d,h1,h2,n,hn=>by
  simp only[DataW.weightsEach,a1E]
  cases i with
  |zero=>simp at h1 h2;subst h1;subst h2;exact .inl hn
  |succ i=>exact .inr (d8r (ts:=ts) (ds:=ds) (i:=i) (by simpa using h1) (by simpa using h2) n hn)
theorem d9r{H:Type}{P:Program}{e:TypeId}:∀{ds:List (DataW H)} {i:Nat} {d:DataW H},ds[i]? =some d->∀n∈d.weights P e,n∈DataW.weightsAll P e ds
 | [],i,d,h,_,_=>by simp at h
 |d0::ds,i,d,h,n,hn=>by
  simp only[DataW.weightsAll,a1E]
  cases i with
  |zero=>simp at h;subst h;exact .inl hn
  |succ i=>exact .inr (d9r (ds:=ds) (i:=i) (by simpa using h) n hn)
def qV{H:Type}(P:Program)(t:TypeId)(d:DataW H):Prop:=∀n∈d.weights P t,n<=reachBytes
theorem d1s{α β:Type}{f:α->Option β}:∀{l:List α} {r:List β},l.mapM f=some r->r.length=l.length/\∀(i:Nat) (x:α),l[i]? =some x->∃y,r[i]? =some y/\f x=some y
 | [],r,h=>by simp at h;subst h;simp
 |a::l,r,h=>by
  rw[a3N]at h
  cases h1:f a with
  |none=>rw[h1]at h;cases h
  |some b=>
   rw[h1]at h
   cases h2:l.mapM f with
   |none=>rw[h2]at h;cases h
   |some r'=>
    rw[h2]at h
    have e:b::r'=r:=by simpa using h
    subst e;obtain⟨g1,g2⟩:=d1s h2;refine⟨by simp[g1],fun i x hx=>?_⟩
    cases i with
    |zero=>simp only[a9E,a5y]at hx;subst hx;exact⟨b,rfl,h1⟩
    |succ i=>simpa using g2 i x (by simpa using hx)
def FP(A:Nat->Prop)(w:World)(cs:List IV)(vs:List Value):Prop:=cs.length=vs.length/\∀i c,cs[i]? =some c->YB A w c (vs.getD i undef)
theorem World.cells?_some{w:World}{a:Addr}{n:Nat}{vs:List Value}(h:w.cells? 0 a n=some vs):vs.length=n/\∀i,i<n->w.cell? (a.add i)=some (vs.getD i undef):=by
 unfold World.cells? at h;rw[if_pos (c4u _)]at h;obtain⟨g1,g2⟩:=d1s h;refine⟨by simpa using g1,fun i hi=>?_⟩;obtain⟨y,h1,h2⟩:=g2 i i (by simp[hi]);rw[h2];simp[a7V,h1]
theorem d2s(vs:List Value)(o n i:Nat)(hi:i<n):((vs.drop o).take n).getD i undef=vs.getD (o+i) undef:=by
 simp[a7V,List.getElem?_take,hi,List.getElem?_drop]
theorem d3s{P:Program}{A:Nat->Prop}{w:World}{vs:List Value}{Φ:TypeId->List IV->Prop}:∀(fs:List Field) (o N:Nat),d6r P fs o=some N->N<=vs.length->
 (∀WJ∈fs,∃cs,cs.length=P.cellsOf WJ.type/\FP A w cs ((vs.drop WJ.offset).take (P.cellsOf WJ.type))/\Φ WJ.type cs)->
 ∃cs:List IV,o+cs.length=N/\(∀i c,cs[i]? =some c->YB A w c (vs.getD (o+i) undef))/\∀WJ∈fs,o<=WJ.offset/\Φ WJ.type ((cs.drop (WJ.offset-o)).take (P.cellsOf WJ.type))
 | [],o,N,h,hN,_=>by
  simp only[d6r,a5y]at h;exact⟨[],by simpa using h,by simp,by simp⟩
 |WJ::r,o,N,h,hN,hf=>by
  simp only[d6r]at h;split at h
  ·rename_i ho;subst ho;obtain⟨c1,h1,⟨h2,h3⟩,h4⟩:=hf WJ a8C;obtain⟨c2,g1,g2,g3⟩:=d3s r (WJ.offset+P.cellsOf WJ.type) N h hN (fun x hx=>hf x (a2C _ hx));refine⟨c1++c2,by simp[h1];omega,fun i c hc=>?_,fun x hx=>?_⟩
   ·by_cases hi:i<c1.length
    ·rw[a1N hi]at hc;have:=h3 i c hc;rwa [d2s _ _ _ _ (by omega)]at this
    ·rw[List.getElem?_append_right (by omega)]at hc;have:=g2 _ c hc;rwa [show WJ.offset+P.cellsOf WJ.type+(i-c1.length)=WJ.offset+i from by omega]at this
   ·rcases a2E.1 hx with rfl|hx
    ·refine⟨a8F _,?_⟩;rw[Nat.sub_self,List.drop_zero, <-h1,List.take_left];exact h4
    ·obtain⟨q1,q2⟩:=g3 x hx;refine⟨by omega,?_⟩;rw[show x.offset-WJ.offset=c1.length+(x.offset-(WJ.offset+P.cellsOf WJ.type))from by omega,List.drop_append];rw[List.drop_eq_nil_of_le (by omega),c9n,Nat.add_sub_cancel_left];exact q2
  ·cases h
theorem d4s{H:Type}{enc:TypeId×Value->H}{P:Program}{S:List TypeId}(hS:d7r P S=true){w:World}:∀(fuel:Nat) (t:TypeId),t∈S->∀(vs:List Value) (d:DataW H) (ps:List MemPlace),
 DataW.trod enc P w 0 (fun _=>true) true fuel t vs=some (d,ps)->∃cs:List IV,cs.length=P.cellsOf t/\FP (fun b=>b<w.heap.size) w cs vs/\Vz P fuel t cs/\(qV P t d->Jr P fuel t cs):=by
 intro fuel
 induction fuel with
 |zero=>intro t _ vs d ps h;cases h
 |succ fuel ih=>
  intro t ht vs d ps h;have hp:=a0E.1 hS t ht;simp only[DataW.trod]at h
  have one:∀{v:Value},v.oneCell'=true->FP (fun b=>b<w.heap.size) w [.v v] [v]:=by
   intro v hv;refine⟨rfl,fun i c hc=>?_⟩
   cases i with
   |zero=>simp only[a9E,a5y]at hc;subst hc;exact .v v hv
   |succ i=>simp at hc
  cases hu:P.underlying t with
  |none=>rw[hu]at hp;simp at hp
  |some dd=>
   rw[hu]at hp h
   cases dd with
   |bool=>
    have hc:P.cellsOf t=1:=by simpa using hp
    split at h<;>first|(rename_i heq;cases heq)|skip
    all_goals try (cases h)
    rename_i b _;exact⟨_,by rw[hc];rfl,one rfl,by simp[Vz,hu],fun _=>by simp[Jr,hu]⟩
   |int k=>
    have hc:P.cellsOf t=1:=by simpa using hp
    split at h<;>first|(rename_i heq;cases heq)|skip
    all_goals try (cases h)
    split at h
    ·rename_i hk;obtain⟨rfl,hw⟩:=hk;exact⟨_,by rw[hc];rfl,one rfl,by simp[Vz,hu,hw],fun _=>by simp[Jr,hu]⟩
    ·cases h
   |string=>
    have hc:P.cellsOf t=1:=by simpa using hp
    split at h<;>first|(rename_i heq;cases heq)|skip
    all_goals try (cases h)
    split at h
    ·rename_i hk;exact⟨_,by rw[hc];rfl,one rfl,by simp[Vz,hu,hk],fun _=>by simp[Jr,hu]⟩
    ·cases h
   |slice e=>
    simp only[a4C,decide_eq_true_eq,d6f]at hp;obtain⟨⟨hc,he⟩,I4⟩:=hp
    split at h<;>first|(rename_i heq;cases heq)|skip
    all_goals try (cases h)
    ·refine⟨[.Z6 (P.cellsOf e) []],by rw[hc];rfl,⟨rfl,fun i c hc=>?_⟩,by simp[Vz,hu],fun _=>by simp[Jr,hu]⟩
     cases i with
     |zero=>simp only[a9E,a5y]at hc;subst hc;exact .Wj _
     |succ i=>simp at hc
    ·rename_i a len cap;split at h
     ·rename_i hb;obtain⟨_,UO,hcm⟩:=hb;obtain⟨elems,hel,h⟩:=b2q.1 h;obtain⟨g1,g2⟩:=d1s hel;obtain⟨rest,_,hd⟩:=a1S.1 h;have hd:d= .slice (elems.map (·.1)) (rest.map (·.1)):=(congrArg d8S hd).symm
      have hR:qV P t d->len*P.bytesOf e<=reachBytes/\∀(i:Nat) (y:DataW H×List MemPlace),elems[i]? =some y->qV P e y.1:=by
       intro hR;rw[hd]at hR;unfold qV at hR;rw[DataW.weights,hu]at hR;refine⟨?_,fun i y hy n hn=>hR n (a2C _ (a6O _ (d9r (i:=i) (by simp[hy]) n hn)))⟩;have h0:=hR _ a8C;simp only[a6S,g1,List.length_range]at h0;exact Nat.le_trans (Nat.mul_le_mul_right _ (d8z _ _)) h0
      have e4R:∀i,i<len->∃vs',w.cells? 0 (a.add (i*P.cellsOf e)) (P.cellsOf e)=some vs'/\∃x:List IV,x.length=P.cellsOf e/\FP (fun b=>b<w.heap.size) w x vs'/\Vz P fuel e x/\(qV P t d->Jr P fuel e x):=by
       intro i hi;obtain⟨y,q1,q2⟩:=g2 i i (by simp[hi]);obtain⟨vs',q3,q4⟩:=b2q.1 q2;obtain⟨x,p1,p2,p3,p4⟩:=ih e (by simpa using he) vs' y.1 y.2 (by rw[q4]);exact⟨vs',q3,x,p1,p2,p3,fun hr=>p4 ((hR hr).2 i y q1)⟩
      classical
      let X:Nat->List IV:=fun i=>if hi:i<len then b6u (b5P (e4R i hi)).2 else[]
      let V:Nat->List Value:=fun i=>if hi:i<len then b6u (e4R i hi)else[]
      have hX:∀i,i<len->w.cells? 0 (a.add (i*P.cellsOf e)) (P.cellsOf e)=some (V i)/\(X i).length=P.cellsOf e/\FP (fun b=>b<w.heap.size) w (X i) (V i)/\Vz P fuel e (X i)/\(qV P t d->Jr P fuel e (X i)):=by
       intro i hi;simp only[X,V,dif_pos hi];obtain⟨q1,q2⟩:=b5P (e4R i hi);exact⟨q1,b5P q2⟩
      have Jt:((a0I len).map X).length=len:=by simp
      have hxi:∀i x,((a0I len).map X)[i]? =some x->i<len/\x=X i:=by
       intro i x hx
       have hi:i<len:=by
        have:=(a7y.1 hx).1;simpa using this
       refine⟨hi,?_⟩;rw[a0C,List.getElem?_range hi]at hx;simpa using hx.symm
      refine⟨[.Z6 (P.cellsOf e) ((a0I len).map X)],by rw[hc];rfl,⟨rfl,fun i c hc=>?_⟩,?_,fun hr=>?_⟩
      ·cases i with
       |succ i=>simp at hc
       |zero=>
        simp only[a9E,a5y]at hc;subst hc
        show YB _ w _ (.slice (some a) len cap)
        have VE:∀i j c,at2 ((a0I len).map X) i j=some c->i<len/\j<P.cellsOf e/\(X i)[j]? =some c:=by
         intro i j c Xo;obtain⟨r,hr,hj⟩:=JO Xo;obtain⟨hi,rfl⟩:=hxi i r hr;exact⟨hi,by rw[<-(hX i hi).2.1];exact(a7y.1 hj).1,hj⟩
        by_cases NN:len=0
        ·subst NN;exact .Z6 (P.cellsOf e) [] 0 0 cap a (fun _ _=>undef) (fun h=>absurd rfl h) (by simp) (by simp) (fun i j c Xo=>by simp[at2]at Xo) (fun i j c Xo=>by simp[at2]at Xo)
        ·have qU:a.spot=none:=by
          have:=World.cell?_spot ((World.cells?_some (hX 0 (by omega)).1).2 0 I4);simpa[Addr.add]using this
         obtain⟨bl,off,spot⟩:=a;simp only at qU;subst qU
         have OU:∀i j,i<len->j<P.cellsOf e->w.cell? ⟨bl,off+(i*P.cellsOf e+j),none⟩=some ((V i).getD j undef):=by
          intro i j hi hj;have:=(World.cells?_some (hX i hi).1).2 j hj;rw[Fk,Fk]at this;rw[<-this,b3P]
         have key:=YB.Z6 (A:=fun b=>b<w.heap.size) (w:=w) (P.cellsOf e) ((a0I len).map X) bl off cap ⟨bl,off,none⟩ (fun i j=>(V i).getD j undef)
          (fun _=>rfl) (fun x hx=>by
           obtain⟨i,hi,rfl⟩:=a3E.1 hx
           exact(hX i (by simpa using hi)).2.1) (by rw[Jt];exact UO)
          (fun i j c Xo=>by
           obtain⟨q1,q2,q3⟩:=VE i j c Xo;have:=OU i j q1 q2
           exact⟨World.block_lt_of_cell? w _ this,this⟩)
          (fun i j c Xo=>by
           obtain⟨q1,q2,q3⟩:=VE i j c Xo
           exact(hX i q1).2.2.1.2 j c q3)
         rw[Jt]at key;exact key
      ·simp only[Vz,hu];refine⟨_,rfl,by rw[Jt];omega,fun x hx=>?_⟩;obtain⟨i,hi,rfl⟩:=a3E.1 hx;exact(hX i (by simpa using hi)).2.2.2.1
      ·simp only[Jr,hu];refine⟨_,rfl,by rw[Jt];exact(hR hr).1,fun x hx=>?_⟩
       obtain⟨i,hi,rfl⟩:=a3E.1 hx;exact(hX i (by simpa using hi)).2.2.2.2 hr
     ·cases h
   |struct fs=>
    simp only[a4C,decide_eq_true_eq,a0E,d6f]at hp;obtain⟨sv,f0X⟩:=hp
    have h:(if vs.length=P.cellsOf t then(fs.toList.mapM fun f=>DataW.trod enc P w 0 (fun _=>true) true fuel f.type ((vs.drop f.offset).take (P.cellsOf f.type))).map fun xs=>(DataW.agg (xs.map (·.1)),xs.flatMap (·.2))else none)=some (d,ps):=by
     match vs,h with
     | _,h=>exact h
    split at h
    ·rename_i hl;obtain⟨xs,JX,hd⟩:=a1S.1 h;have hd:d= .agg (xs.map (·.1)):=(congrArg d8S hd).symm;obtain⟨g1,g2⟩:=d1s JX
     obtain⟨cs,q1,q2,q3⟩:=d3s (A:=fun b=>b<w.heap.size) (w:=w) (vs:=vs) (Φ:=fun t' cs=>Vz P fuel t' cs/\(qV P t d->Jr P fuel t' cs)) fs.toList 0 (P.cellsOf t) f0X (by omega) (fun WJ hf=>by
      obtain⟨i,hi⟩:=a9B hf;obtain⟨y,r1,r2⟩:=g2 i WJ hi;obtain⟨cs,r3,r4,r5,r6⟩:=ih WJ.type (by simpa using sv WJ hf) _ y.1 y.2 (by rw[r2]);refine⟨cs,r3,r4,r5,fun hr=>r6 ?_⟩;rw[hd]at hr;unfold qV at hr;rw[DataW.weights,hu]at hr
      exact fun n hn=>hr n (d8r (i:=i) (by simp[hi]) (by simp[r1]) n hn))
     rw[b4s]at q1;refine⟨cs,q1,⟨by omega,fun i c hc=>by have:=q2 i c hc;rwa [b4s]at this⟩,?_,fun hr=>?_⟩
     ·simp only[Vz,hu];exact⟨q1,fun WJ hf=>by have:=(q3 WJ hf).2.1;rwa [d8Q]at this⟩
     ·simp only[Jr,hu]
      exact fun WJ hf=>by have:=(q3 WJ hf).2.2 hr;rwa [d8Q]at this
    ·cases h
   | _=>simp at hp
end Go.Vm
end

section
namespace Go.Vm
open Go.ChangeShapes Go.WideShapes Go.ChangeAt Go.RowKit
def Q8(P:Program):List TypeId->List (List IV)->List AV
 |t::ts,cs::WU=>Tq (XZ P t) (cs.map .iv)::Q8 P ts WU
 | _,_=>[]
def d2w(P:Program):List TypeId->List (List IV)->Prop
 | [],[]=>True
 |t::ts,cs::WU=>(∃fuel,Vz P fuel t cs)/\d2w P ts WU
 | _,_=>False
def d3w(P:Program):List TypeId->List (List IV)->Prop
 | [],[]=>True
 |t::ts,cs::WU=>(∃fuel,Vz P fuel t cs/\Jr P fuel t cs)/\d3w P ts WU
 | _,_=>False
theorem d4w{P:Program}{S:List TypeId}(hS:d7r P S=true){t:TypeId}(ht:t∈S){w:World}{base:Nat}{v:Value}(h:Value.okWide P w .any base t v):SU v=XZ P t:=by
 have hp:=a0E.1 hS t ht;unfold Value.okWide at h
 cases hu:P.underlying t with
 |none=>rw[hu]at hp;simp at hp
 |some dd=>
  rw[hu]at hp h
  cases dd with
  |struct fs=>obtain⟨cs,rfl,_⟩:=h;simp[SU,XZ,hu]
  |bool=>simp only[Cell.okWide,Cell.ok,hu]at h;cases v<;>simp_all[SU,XZ]
  |int k=>simp only[Cell.okWide,Cell.ok,hu]at h;cases v<;>simp_all[SU,XZ]
  |string=>simp only[Cell.okWide,Cell.ok,hu]at h;cases v<;>simp_all[SU,XZ]
  |slice e=>simp only[Cell.okWide,Cell.ok,hu]at h;cases v<;>simp_all[SU,XZ]
  | _=>simp at hp
theorem d5w{H:Type}{enc:TypeId×Value->H}{P:Program}{S:List TypeId}(hS:d7r P S=true){W:World}{base:Nat}:∀(ts:List TypeId) (vs:List Value) (ds:List (DataW H)) (p:List MemPlace),
 DataW.TrodAll enc P W 0 (fun _=>true) true ts vs ds p->(∀t∈ts,t∈S)->(∀(j:Nat) t v,ts[j]? =some t->vs[j]? =some v->Value.okWide P W .any base t v)->
 ∃WU,(d2w P ts WU/\((∀n∈DataW.weightsEach P ts ds,n<=reachBytes)->d3w P ts WU))/\vs.length=(Q8 P ts WU).length/\∀i x,(Q8 P ts WU)[i]? =some x->ZK (fun b=>b<W.heap.size) ⟨fun _=>none,fun _ _=>False⟩ [] W x (vs.getD i undef)
 | [],vs,ds,p,h,_,_=>by
  cases vs with
  |nil=>exact⟨[],⟨trivial,fun _=>trivial⟩,rfl,by simp[Q8]⟩
  |cons v vs=>cases ds<;>exact h.elim
 |t::ts,vs,ds,p,h,MC,ZY=>by
  obtain⟨v,vs,d,ds,p,q,rfl,rfl,rfl,⟨fuel,h1⟩,h2⟩:=trodAll_cons h;obtain⟨cs,g1,⟨g2,g3⟩,g4,g5⟩:=d4s hS fuel t (MC t a8C) _ _ _ h1;obtain⟨WU,⟨r1,r4⟩,r2,r3⟩:=d5w hS ts vs ds q h2 (fun x hx=>MC x (a2C _ hx)) (fun j t' v' h3 h4=>ZY (j+1) t' v' h3 h4)
  refine⟨cs::WU,⟨⟨⟨fuel,g4⟩,r1⟩,fun hw=>⟨⟨fuel,g4,g5 fun n hn=>hw n (by simp only[DataW.weightsEach,a1E];exact .inl hn)⟩,r4 fun n hn=>hw n (by simp only[DataW.weightsEach,a1E];exact .inr hn)⟩⟩,by simp[Q8,r2],fun i x hx=>?_⟩
  cases i with
  |zero=>
   simp only[Q8,a9E,a5y]at hx;subst hx
   refine c3t (d4w hS (MC t a8C) (ZY 0 t v rfl rfl)) (by simpa using g2.symm) fun i x hx=>?_
   rw[<-SK];exact g3 i x hx
  |succ i=>
   simp only[Q8,a2I]at hx;simpa using r3 i x hx
theorem d6w{H:Type}{enc:TypeId×Value->H}{P:Program}(hl:laidOutB P=true){W W':World}(bel:Below W.heap.size W W'):∀(ts:List TypeId) (vs:List Value) (ds:List (DataW H)) (p:List MemPlace),
 DataW.TrodAll enc P W 0 (fun _=>true) true ts vs ds p->(∀t∈ts,P.readableRec t=true/\t<P.types.size)->DataW.TrodAll enc P W' 0 (fun b=>decide (b<W.heap.size)) true ts vs ds p
 | [],vs,ds,p,h,_=>by
  cases vs<;>cases ds<;>first|exact h|exact h.elim
 |t::ts,vs,ds,p,h,MC=>by
  obtain⟨v,vs,d,ds,p,q,rfl,rfl,rfl,h1,h2⟩:=trodAll_cons h;have ht:=MC t a8C;refine trodAll_cons_mk (Below.trod hl ht.1 ht.2 h1 bel ?_) (d6w hl bel ts vs ds q h2 (fun x hx=>MC x (a2C _ hx)));intro x hx;obtain⟨m,hm⟩:=h1;exact DataW.trod_lt m _ _ _ hm x hx
theorem d7w{P:Program}{f:FuncId}{args:List AV}(h:ZU P true f args [] (.iv (.v (.bool true))) []){w:World}{vs:List Value}(hl:vs.length=args.length)
 (hv:∀i x,args[i]? =some x->ZK (fun b=>b<w.heap.size) ⟨fun _=>none,fun _ _=>False⟩ [] w x (vs.getD i undef)):
 Calls P f vs.toArray w fun e w'=>e= .returned (.bool true)/\Below w.heap.size w w':=by
 have Y6:∀{ψ:Pl} {b:Nat},¬ZD ψ [] b:=by rintro ψ b ⟨id,o,h,_⟩;cases h
 refine(h.2 (fun b=>b<w.heap.size) ⟨fun _=>none,fun _ _=>False⟩ w vs (fun _ h=>h) (fun id o ho=>by cases ho) (fun id XP o o' b ho=>by cases ho) (fun id o b ho=>by cases ho) (fun b hb=>(Y6 hb).elim) hl hv).mono ?_;rintro e w' ⟨v,ZF,rfl,k1,k2,k3,k4,k5,k6,kS,k7,k8⟩;exact⟨by rw[VN k8],k3.os,k3.tape,k3.output,k2,fun b hb=>k1 b hb Y6⟩
theorem d8w{C:Checked}{S:List TypeId}(hS:d7r C.prog S=true)(hl:laidOutB C.prog=true){f:FuncId}{fn:Func}{ts:List TypeId}{tb:TypeId}{spec:ChangeSpec}(J4:spec.vars=[])
 (FO:fn.params.toList=ts) (MC:∀t∈ts,t∈S) (hrd:∀t∈ts,C.prog.readableRec t=true/\t<C.prog.types.size) (TY:fn.resultTypes= #[tb]) (htb:C.prog.underlying tb=some .bool)
 (Wk:∀(H:Type) (ds:List (DataW H)),ds.length=ts.length->(spec.fn H ds).results=[.lit (.bool true)]/\(spec.fn H ds).args=ds/\(spec.fn H ds).vars=[])
 (sz:Prop) (hg:∀WU,d2w C.prog ts WU->(sz->d3w C.prog ts WU)->ZU C.prog true f (Q8 C.prog ts WU) [] (.iv (.v (.bool true))) [])
 {H:Type} {enc:TypeId×Value->H} {W:World} {base:Nat} {args:Array Value} {ds gs:List (DataW H)} {before:List MemPlace}
 (hval:∀(j:Nat) t v,fn.params[j]? =some t->args[j]? =some v->Value.okWide C.prog W .any base t v) (hW:DataW.Whole enc C.prog fn.params.toList spec.vars false W args.toList ds gs before)
 (Yd:sz->∀n∈DataW.weightsEach C.prog ts ds,n<=reachBytes):
 Calls C.prog f args W fun e W'=>∃v,e= .returned v/\spec.post enc C.prog fn false true false false W args v W':=by
 have hW':=hW;obtain⟨p,q,hA,hV,rfl,hfz,WA⟩:=hW;rw[FO]at hA;rw[J4]at hV;obtain⟨rfl,rfl⟩:=trodVars_none hV;obtain⟨WU,⟨h1,h1s⟩,h2,h3⟩:=d5w (base:=base) hS ts args.toList ds p hA MC (fun j t v hj hv=>hval j t v (by rw[<-a9C,FO];exact hj) (by rw[<-a9C];exact hv))
 have hlen:∀(ts:List TypeId) (vs:List Value) (ds:List (DataW H)) (p:List MemPlace),DataW.TrodAll enc C.prog W 0 (fun _=>true) true ts vs ds p->ds.length=ts.length:=by
  intro ts
  induction ts with
  |nil=>intro vs ds p h;cases vs<;>cases ds<;>first|rfl|exact h.elim
  |cons t ts ih=>
   intro vs ds p h;obtain⟨v,vs,d,ds,p,q,rfl,rfl,rfl,_,h2⟩:=trodAll_cons h;simp[ih _ _ _ h2]
 have tS:=hlen _ _ _ _ hA;obtain⟨s1,s2,s3⟩:=Wk H ds tS;refine(d7w (hg WU h1 fun s=>h1s (Yd s)) h2 h3).mono ?_;rintro e W' ⟨rfl,bel⟩;refine⟨_,rfl,ds,[],_,[],p,[],hW',?_,?_,?_,bel.frame _,fun h=>by cases h⟩
 ·rw[b2y,s1,TY];exact trodAll_mk1 (shut_bool htb _)
 ·rw[b2y,s2,FO];exact d6w hl bel ts _ ds p hA hrd
 ·rw[b2y,s3,J4];rfl
theorem d9w{C:Checked}{S:List TypeId}(hS:d7r C.prog S=true)(hl:laidOutB C.prog=true){f:FuncId}{fn:Func}{ts:List TypeId}{tb:TypeId}{spec:ChangeSpec}(J4:spec.vars=[])
 (FO:fn.params.toList=ts) (MC:∀t∈ts,t∈S) (hrd:∀t∈ts,C.prog.readableRec t=true/\t<C.prog.types.size) (TY:fn.resultTypes= #[tb]) (htb:C.prog.underlying tb=some .bool)
 (Wk:∀(H:Type) (ds:List (DataW H)),ds.length=ts.length->(spec.fn H ds).results=[.lit (.bool true)]/\(spec.fn H ds).args=ds/\(spec.fn H ds).vars=[])
 (hg:∀WU,d2w C.prog ts WU->ZU C.prog true f (Q8 C.prog ts WU) [] (.iv (.v (.bool true))) [])
 {H:Type} {enc:TypeId×Value->H} {W:World} {base:Nat} {args:Array Value} {ds gs:List (DataW H)} {before:List MemPlace}
 (hval:∀(j:Nat) t v,fn.params[j]? =some t->args[j]? =some v->Value.okWide C.prog W .any base t v) (hW:DataW.Whole enc C.prog fn.params.toList spec.vars false W args.toList ds gs before):
 Calls C.prog f args W fun e W'=>∃v,e= .returned v/\spec.post enc C.prog fn false true false false W args v W':=
 d8w hS hl J4 FO MC hrd TY htb Wk False (fun WU h _=>hg WU h) hval hW fun h=>h.elim
end Go.Vm
end

section
namespace Go.Rt
@[reducible] noncomputable def prog:Program:=Go.Proofs.Tryz.prog
@[reducible]def g1g:FuncId:=3
@[reducible]def g2g:FuncId:=4
@[reducible]def g3g:FuncId:=5
@[reducible]def g4g:FuncId:=6
@[reducible]def r8:FuncId:=7
@[reducible]def rZ:FuncId:=8
@[reducible]def su:FuncId:=9
@[reducible]def rY:FuncId:=10
@[reducible]def rX:FuncId:=11
@[reducible]def rW:FuncId:=12
@[reducible]def g5g:FuncId:=13
@[reducible]def g6g:FuncId:=14
@[reducible]def g7g:FuncId:=15
@[reducible]def g8g:FuncId:=16
@[reducible]def g9g:FuncId:=17
@[reducible]def Mw:FuncId:=18
@[reducible]def VL:FuncId:=19
@[reducible]def XE:FuncId:=20
@[reducible]def Xv:FuncId:=21
@[reducible]def Vq:FuncId:=22
@[reducible]def R2:FuncId:=23
@[reducible]def R1:FuncId:=24
@[reducible]def Mv:FuncId:=25
@[reducible]def UL:FuncId:=26
@[reducible]def Tc:FuncId:=27
@[reducible]def Ic:FuncId:=28
@[reducible]def YA:FuncId:=29
@[reducible]def Mu:FuncId:=30
@[reducible]def X4:FuncId:=31
@[reducible]def Mt:FuncId:=32
@[reducible]def XX:FuncId:=33
@[reducible]def Ms:FuncId:=34
@[reducible]def XW:FuncId:=35
@[reducible]def Mr:FuncId:=36
@[reducible]def XT:FuncId:=37
@[reducible]def Mq:FuncId:=38
@[reducible]def Ub:FuncId:=39
@[reducible]def Mp:FuncId:=40
@[reducible]def Mn:FuncId:=41
@[reducible]def Ua:FuncId:=42
@[reducible]def Mm:FuncId:=43
@[reducible]def R0:FuncId:=44
@[reducible]def Ml:FuncId:=45
@[reducible]def g0h:FuncId:=46
@[reducible]def g1h:FuncId:=47
@[reducible]def g2h:FuncId:=48
@[reducible]def g3h:FuncId:=49
@[reducible]def g4h:FuncId:=50
@[reducible]def g5h:FuncId:=51
@[reducible]def g6h:FuncId:=52
@[reducible]def g7h:FuncId:=53
@[reducible]def g8h:FuncId:=54
@[reducible]def g9h:FuncId:=55
@[reducible]def g0i:FuncId:=56
@[reducible]def Ib:FuncId:=57
@[reducible]def g1i:FuncId:=58
@[reducible]def g2i:FuncId:=59
@[reducible]def g3i:FuncId:=60
@[reducible]def Mk:FuncId:=61
@[reducible]def RZ:FuncId:=62
@[reducible]def Mj:FuncId:=63
@[reducible]def Mi:FuncId:=64
@[reducible]def Mh:FuncId:=65
@[reducible]def Mg:FuncId:=66
@[reducible]def Ia:FuncId:=67
@[reducible]def Mf:FuncId:=68
@[reducible]def ON:FuncId:=69
@[reducible]def UK:FuncId:=70
@[reducible]def H9:FuncId:=71
@[reducible]def Ta:FuncId:=72
@[reducible]def H8:FuncId:=73
@[reducible]def H7:FuncId:=74
@[reducible]def H6:FuncId:=75
@[reducible]def H5:FuncId:=76
@[reducible]def H4:FuncId:=77
@[reducible]def H3:FuncId:=78
@[reducible]def Wz:FuncId:=79
@[reducible]def HZ:FuncId:=80
@[reducible]def RY:FuncId:=81
@[reducible]def QI:FuncId:=82
@[reducible]def Me:FuncId:=83
@[reducible]def Md:FuncId:=84
@[reducible]def OM:FuncId:=85
@[reducible]def Mc:FuncId:=86
@[reducible]def Mb:FuncId:=87
@[reducible]def Ma:FuncId:=88
@[reducible]def QH:FuncId:=89
@[reducible]def HY:FuncId:=90
@[reducible]def L9:FuncId:=91
@[reducible]def L8:FuncId:=92
@[reducible]def L7:FuncId:=93
@[reducible]def L6:FuncId:=94
@[reducible]def OL:FuncId:=95
@[reducible]def g4i:FuncId:=96
@[reducible]def g5i:FuncId:=97
@[reducible]def g6i:FuncId:=98
@[reducible]def g7i:FuncId:=99
@[reducible]def g8i:FuncId:=100
@[reducible]def g9i:FuncId:=101
@[reducible]def OJ:FuncId:=102
@[reducible]def HX:FuncId:=103
@[reducible]def Yb:FuncId:=104
@[reducible]def L5:FuncId:=105
@[reducible]def OI:FuncId:=106
@[reducible]def RX:FuncId:=107
@[reducible]def L4:FuncId:=108
@[reducible]def L3:FuncId:=109
@[reducible]def OH:FuncId:=110
@[reducible]def L2:FuncId:=111
@[reducible]def HW:FuncId:=112
@[reducible]def QG:FuncId:=113
@[reducible]def g0j:FuncId:=114
@[reducible]def g1j:FuncId:=115
@[reducible]def QF:FuncId:=116
@[reducible]def HV:FuncId:=117
@[reducible]def L1:FuncId:=118
@[reducible]def LZ:FuncId:=119
@[reducible]def OG:FuncId:=120
@[reducible]def HU:FuncId:=121
@[reducible]def HT:FuncId:=122
@[reducible]def HS:FuncId:=123
@[reducible]def HR:FuncId:=124
@[reducible]def T9:FuncId:=125
@[reducible]def T8:FuncId:=126
@[reducible]def HQ:FuncId:=127
@[reducible]def LY:FuncId:=128
@[reducible]def LX:FuncId:=129
@[reducible]def HP:FuncId:=130
@[reducible]def LW:FuncId:=131
@[reducible]def OE:FuncId:=132
@[reducible]def f6h:FuncId:=133
@[reducible]def LV:FuncId:=134
@[reducible]def f7h:FuncId:=135
@[reducible]def f8h:FuncId:=136
@[reducible]def f9h:FuncId:=137
@[reducible]def g2j:FuncId:=138
@[reducible]def RW:FuncId:=139
@[reducible]def Ii:FuncId:=140
@[reducible]def HO:FuncId:=141
@[reducible]def HN:FuncId:=142
@[reducible]def Ih:FuncId:=143
@[reducible]def QE:FuncId:=144
@[reducible]def OD:FuncId:=145
@[reducible]def HM:FuncId:=146
@[reducible]def g3j:FuncId:=147
@[reducible]def UJ:FuncId:=148
@[reducible]def HL:FuncId:=149
@[reducible]def OC:FuncId:=150
@[reducible]def QD:FuncId:=151
@[reducible]def LU:FuncId:=152
@[reducible]def LR:FuncId:=153
@[reducible]def g4j:FuncId:=154
@[reducible]def g5j:FuncId:=155
@[reducible]def g6j:FuncId:=156
@[reducible]def g7j:FuncId:=157
@[reducible]def g8j:FuncId:=158
@[reducible]def g9j:FuncId:=159
@[reducible]def g0k:FuncId:=160
@[reducible]def g1k:FuncId:=161
@[reducible]def g2k:FuncId:=162
@[reducible]def g3k:FuncId:=163
@[reducible]def HK:FuncId:=164
@[reducible]def HJ:FuncId:=165
@[reducible]def QC:FuncId:=166
@[reducible]def LQ:FuncId:=167
@[reducible]def Zj:FuncId:=168
@[reducible]def OB:FuncId:=169
@[reducible]def LP:FuncId:=170
@[reducible]def HI:FuncId:=171
@[reducible]def HG:FuncId:=172
@[reducible]def RV:FuncId:=173
@[reducible]def LN:FuncId:=174
@[reducible]def RU:FuncId:=175
@[reducible]def HF:FuncId:=176
@[reducible]def QB:FuncId:=177
@[reducible]def LM:FuncId:=178
@[reducible]def HE:FuncId:=179
@[reducible]def HD:FuncId:=180
@[reducible]def g4k:FuncId:=181
@[reducible]def g5k:FuncId:=182
@[reducible]def g6k:FuncId:=183
@[reducible]def g7k:FuncId:=184
@[reducible]def g8k:FuncId:=185
@[reducible]def g9k:FuncId:=186
@[reducible]def g0l:FuncId:=187
@[reducible]def g1l:FuncId:=188
@[reducible]def g2l:FuncId:=189
@[reducible]def S9:FuncId:=190
@[reducible]def HC:FuncId:=191
@[reducible]def QA:FuncId:=192
@[reducible]def S8:FuncId:=193
@[reducible]def g3l:FuncId:=194
@[reducible]def g4l:FuncId:=195
@[reducible]def g5l:FuncId:=196
@[reducible]def g6l:FuncId:=197
@[reducible]def g7l:FuncId:=198
@[reducible]def LL:FuncId:=199
@[reducible]def LK:FuncId:=200
@[reducible]def LJ:FuncId:=201
@[reducible]def OA:FuncId:=202
@[reducible]def LI:FuncId:=203
@[reducible]def Oz:FuncId:=204
@[reducible]def Oy:FuncId:=205
@[reducible]def RT:FuncId:=206
@[reducible]def HB:FuncId:=207
@[reducible]def g8l:FuncId:=208
@[reducible]def g9l:FuncId:=209
@[reducible]def g0m:FuncId:=210
@[reducible]def g1m:FuncId:=211
@[reducible]def LH:FuncId:=212
@[reducible]def g2m:FuncId:=213
@[reducible]def HA:FuncId:=214
@[reducible]def Ox:FuncId:=215
@[reducible]def Ow:FuncId:=216
@[reducible]def Ov:FuncId:=217
@[reducible]def g3m:FuncId:=218
@[reducible]def g4m:FuncId:=234
end Go.Rt
end

section
namespace Go.Vm
@[simp]abbrev oo(d:Nat)(r:Wu):Yv:=⟨some d,none,r⟩
@[simp]abbrev on(r:Wu):Yv:=⟨none,none,r⟩
@[simp]abbrev og(d j:Nat)(b:Bool)(r:Wu):Yv:=⟨some d,some (j,b),r⟩
@[simp]abbrev zi:AV:= .iv (.v (.int .i64 0))
@[simp]abbrev zb:AV:= .iv (.v (.bool false))
@[simp]abbrev zs:AV:= .iv (.v (.string ⟨#[]⟩))
@[simp]abbrev ki(n:Int):Value:= .int .i64 n
@[simp]abbrev kb(b:Bool):Value:= .bool b
@[simp]abbrev T(n:Nat):Operand:= .tmp n
@[simp]abbrev K(n:Int):Operand:= .const (.int .i64 n)
@[simp]abbrev B(b:Bool):Operand:= .const (.bool b)
abbrev LO:=List Yv
@[simp]abbrev oc(d:Nat)(r:Wu)(t:VT):VT:= .op ⟨some d,none,r⟩ t
@[simp]abbrev X1(d g:Nat)(f:FuncId)(x:Nat):Yv:=⟨some d,some (g,false), .call f [.tmp x]⟩
@[simp]abbrev X2(d g:Nat)(f:FuncId)(x y:Nat):Yv:=⟨some d,some (g,false), .call f [.tmp x, .tmp y]⟩
@[simp]abbrev U3(d g:Nat)(f:FuncId)(x y z:Nat):Yv:=⟨some d,some (g,false), .call f [.tmp x, .tmp y, .tmp z]⟩
@[simp]abbrev W5(d g:Nat)(f:FuncId)(x y z u v:Nat):Yv:=⟨some d,some (g,false), .call f [.tmp x, .tmp y, .tmp z, .tmp u, .tmp v]⟩
@[simp]abbrev qc(d g:Nat)(o:BinOp)(x:Nat)(y:Int):Yv:=⟨some d,some (g,false), .bin o (.tmp x) (.const (.int .i64 y))⟩
@[simp]abbrev jf(d g:Nat)(n x:Nat):Yv:=⟨some d,some (g,false), .fa n (.tmp x)⟩
@[simp]abbrev Yh(d g:Nat)(x:Nat):Yv:=⟨some d,some (g,false), .sb (.tmp x)⟩
@[simp]abbrev qi(d g:Nat)(n x y:Nat):Yv:=⟨some d,some (g,false), .ia n (.tmp x) (.tmp y)⟩
@[simp]abbrev ql(d g:Nat)(x:Nat):Yv:=⟨some d,some (g,false), .ld (.tmp x) none⟩
@[simp]abbrev qm(d g:Nat)(x:Nat):Yv:=⟨some d,some (g,false), .Td (.tmp x)⟩
@[simp]abbrev Yn(d g:Nat)(x:Nat):Yv:=⟨some d,some (g,false), .len (.tmp x)⟩
@[simp]abbrev qp(d g:Nat)(x y:Nat):Yv:=⟨some d,some (g,false), .pick (.tmp x) (.tmp y) (.const (.bool false))⟩
@[simp]abbrev Ws(d g:Nat)(x n:Nat):Yv:=⟨some d,some (g,false), .ld (.tmp x) (some n)⟩
@[simp]abbrev qt(d g:Nat)(o:BinOp)(x y:Nat):Yv:=⟨some d,some (g,false), .bin o (.tmp x) (.tmp y)⟩
@[simp]abbrev Yu(d g:Nat)(x:Nat):Yv:=⟨some d,some (g,false), .un .not (.tmp x)⟩
@[simp]abbrev wo(x y n:Nat):Yv:=⟨none,none, .st (.tmp x) (.tmp y) n⟩
@[simp]abbrev V1(d:Nat)(f:FuncId)(x:Nat)(t:VT):VT:= .op ⟨some d,none, .call f [.tmp x]⟩ t
@[simp]abbrev V2(d:Nat)(f:FuncId)(x y:Nat)(t:VT):VT:= .op ⟨some d,none, .call f [.tmp x, .tmp y]⟩ t
@[simp]abbrev W3(d:Nat)(f:FuncId)(x y z:Nat)(t:VT):VT:= .op ⟨some d,none, .call f [.tmp x, .tmp y, .tmp z]⟩ t
@[simp]abbrev j4(d:Nat)(f:FuncId)(x y z u:Nat)(t:VT):VT:= .op ⟨some d,none, .call f [.tmp x, .tmp y, .tmp z, .tmp u]⟩ t
@[simp]abbrev j5(d:Nat)(f:FuncId)(x y z u v:Nat)(t:VT):VT:= .op ⟨some d,none, .call f [.tmp x, .tmp y, .tmp z, .tmp u, .tmp v]⟩ t
@[simp]abbrev yc(d:Nat)(o:BinOp)(x:Nat)(y:Int)(t:VT):VT:= .op ⟨some d,none, .bin o (.tmp x) (.const (.int .i64 y))⟩ t
@[simp]abbrev ve(d:Nat)(n x:Nat)(t:VT):VT:= .op ⟨some d,none, .ext n (.tmp x)⟩ t
@[simp]abbrev Yf(d:Nat)(n x:Nat)(t:VT):VT:= .op ⟨some d,none, .fa n (.tmp x)⟩ t
@[simp]abbrev vh(d:Nat)(x:Nat)(t:VT):VT:= .op ⟨some d,none, .sb (.tmp x)⟩ t
@[simp]abbrev yi(d:Nat)(n x y:Nat)(t:VT):VT:= .op ⟨some d,none, .ia n (.tmp x) (.tmp y)⟩ t
@[simp]abbrev vk(d:Nat)(x:Int)(t:VT):VT:= .op ⟨some d,none, .Td (.const (.int .i64 x))⟩ t
@[simp]abbrev yl(d:Nat)(x:Nat)(t:VT):VT:= .op ⟨some d,none, .ld (.tmp x) none⟩ t
@[simp]abbrev ym(d:Nat)(x:Nat)(t:VT):VT:= .op ⟨some d,none, .Td (.tmp x)⟩ t
@[simp]abbrev vn(d:Nat)(x:Nat)(t:VT):VT:= .op ⟨some d,none, .len (.tmp x)⟩ t
@[simp]abbrev yp(d:Nat)(x y:Nat)(t:VT):VT:= .op ⟨some d,none, .pick (.tmp x) (.tmp y) (.const (.bool false))⟩ t
@[simp]abbrev vq(d:Nat)(x y:Nat)(t:VT):VT:= .op ⟨some d,none, .pick (.tmp x) (.const (.bool true)) (.tmp y)⟩ t
@[simp]abbrev Ys(d:Nat)(x n:Nat)(t:VT):VT:= .op ⟨some d,none, .ld (.tmp x) (some n)⟩ t
@[simp]abbrev vt(d:Nat)(o:BinOp)(x y:Nat)(t:VT):VT:= .op ⟨some d,none, .bin o (.tmp x) (.tmp y)⟩ t
@[simp]abbrev vu(d:Nat)(x:Nat)(t:VT):VT:= .op ⟨some d,none, .un .not (.tmp x)⟩ t
@[simp]abbrev y0(d:Nat)(f:FuncId):Yv:=⟨some d,none, .call f []⟩
@[simp]abbrev Y1(d:Nat)(f:FuncId)(x:Nat):Yv:=⟨some d,none, .call f [.tmp x]⟩
@[simp]abbrev Y2(d:Nat)(f:FuncId)(x y:Nat):Yv:=⟨some d,none, .call f [.tmp x, .tmp y]⟩
@[simp]abbrev Y3(d:Nat)(f:FuncId)(x y z:Nat):Yv:=⟨some d,none, .call f [.tmp x, .tmp y, .tmp z]⟩
@[simp]abbrev Y4(d:Nat)(f:FuncId)(x y z u:Nat):Yv:=⟨some d,none, .call f [.tmp x, .tmp y, .tmp z, .tmp u]⟩
@[simp]abbrev Y5(d:Nat)(f:FuncId)(x y z u v:Nat):Yv:=⟨some d,none, .call f [.tmp x, .tmp y, .tmp z, .tmp u, .tmp v]⟩
@[simp]abbrev wb(d:Nat)(x:Bool):Yv:=⟨some d,none, .Td (.const (.bool x))⟩
@[simp]abbrev wc(d:Nat)(o:BinOp)(x:Nat)(y:Int):Yv:=⟨some d,none, .bin o (.tmp x) (.const (.int .i64 y))⟩
@[simp]abbrev we(d:Nat)(n x:Nat):Yv:=⟨some d,none, .ext n (.tmp x)⟩
@[simp]abbrev yf(d:Nat)(n x:Nat):Yv:=⟨some d,none, .fa n (.tmp x)⟩
@[simp]abbrev wh(d:Nat)(x:Nat):Yv:=⟨some d,none, .sb (.tmp x)⟩
@[simp]abbrev wi(d:Nat)(n x y:Nat):Yv:=⟨some d,none, .ia n (.tmp x) (.tmp y)⟩
@[simp]abbrev wk(d:Nat)(x:Int):Yv:=⟨some d,none, .Td (.const (.int .i64 x))⟩
@[simp]abbrev wl(d:Nat)(x:Nat):Yv:=⟨some d,none, .ld (.tmp x) none⟩
@[simp]abbrev wm(d:Nat)(x:Nat):Yv:=⟨some d,none, .Td (.tmp x)⟩
@[simp]abbrev wn(d:Nat)(x:Nat):Yv:=⟨some d,none, .len (.tmp x)⟩
@[simp]abbrev wp(d:Nat)(x y:Nat):Yv:=⟨some d,none, .pick (.tmp x) (.tmp y) (.const (.bool false))⟩
@[simp]abbrev wq(d:Nat)(x y:Nat):Yv:=⟨some d,none, .pick (.tmp x) (.const (.bool true)) (.tmp y)⟩
@[simp]abbrev ws(d:Nat)(x n:Nat):Yv:=⟨some d,none, .ld (.tmp x) (some n)⟩
@[simp]abbrev wt(d:Nat)(o:BinOp)(x y:Nat):Yv:=⟨some d,none, .bin o (.tmp x) (.tmp y)⟩
@[simp]abbrev wu(d:Nat)(x:Nat):Yv:=⟨some d,none, .un .not (.tmp x)⟩
@[simp]abbrev wx(d:Nat)(x:Nat):Yv:=⟨some d,none, .box (.tmp x)⟩
@[simp]abbrev wz(d:Nat)(n:Nat):Yv:=⟨some d,none, .Ix n⟩
@[simp]abbrev U1(d g:Nat)(f:FuncId)(x:Nat):Yv:=⟨some d,some (g,true), .call f [.tmp x]⟩
@[simp]abbrev U2(d g:Nat)(f:FuncId)(x y:Nat):Yv:=⟨some d,some (g,true), .call f [.tmp x, .tmp y]⟩
@[simp]abbrev V3(d g:Nat)(f:FuncId)(x y z:Nat):Yv:=⟨some d,some (g,true), .call f [.tmp x, .tmp y, .tmp z]⟩
@[simp]abbrev W4(d g:Nat)(f:FuncId)(x y z u:Nat):Yv:=⟨some d,some (g,true), .call f [.tmp x, .tmp y, .tmp z, .tmp u]⟩
@[simp]abbrev u5(d g:Nat)(f:FuncId)(x y z u v:Nat):Yv:=⟨some d,some (g,true), .call f [.tmp x, .tmp y, .tmp z, .tmp u, .tmp v]⟩
@[simp]abbrev Yc(d g:Nat)(o:BinOp)(x:Nat)(y:Int):Yv:=⟨some d,some (g,true), .bin o (.tmp x) (.const (.int .i64 y))⟩
@[simp]abbrev qf(d g:Nat)(n x:Nat):Yv:=⟨some d,some (g,true), .fa n (.tmp x)⟩
@[simp]abbrev yh(d g:Nat)(x:Nat):Yv:=⟨some d,some (g,true), .sb (.tmp x)⟩
@[simp]abbrev Yi(d g:Nat)(n x y:Nat):Yv:=⟨some d,some (g,true), .ia n (.tmp x) (.tmp y)⟩
@[simp]abbrev Yl(d g:Nat)(x:Nat):Yv:=⟨some d,some (g,true), .ld (.tmp x) none⟩
@[simp]abbrev Ym(d g:Nat)(x:Nat):Yv:=⟨some d,some (g,true), .Td (.tmp x)⟩
@[simp]abbrev yn(d g:Nat)(x:Nat):Yv:=⟨some d,some (g,true), .len (.tmp x)⟩
@[simp]abbrev yq(d g:Nat)(x y:Nat):Yv:=⟨some d,some (g,true), .pick (.tmp x) (.const (.bool true)) (.tmp y)⟩
@[simp]abbrev qs(d g:Nat)(x n:Nat):Yv:=⟨some d,some (g,true), .ld (.tmp x) (some n)⟩
@[simp]abbrev Yt(d g:Nat)(o:BinOp)(x y:Nat):Yv:=⟨some d,some (g,true), .bin o (.tmp x) (.tmp y)⟩
@[simp]abbrev yu(d g:Nat)(x:Nat):Yv:=⟨some d,some (g,true), .un .not (.tmp x)⟩
@[simp]abbrev V(o:Yv)(t:VT):VT:= .op o t
@[simp]abbrev Q(a b:Z9):Z9:= .seq a b
@[simp]abbrev R(l:List Yv):Z9:= .E7 l
@[simp]abbrev C(x:Operand)(a b:Z9):Z9:= .cond x a b
@[simp]abbrev CX(x n:Nat):Z9:= .cond (.tmp x) .skip (.exit n)
@[simp]abbrev CR(x:Nat)(l:List Yv):Z9:= .cond (.tmp x) (.seq (.E7 l) .ret) .skip
@[simp]abbrev CT(x:Nat)(a b:Z9):Z9:= .cond (.tmp x) a b
@[simp]abbrev QR(l:List Yv)(b:Z9):Z9:= .seq (.E7 l) b
end Go.Vm
end

section
namespace Go.Rt
open Go.Vm
@[simp]def e5S:=[wb 2 false]
@[simp]def e6S:=[wm 5 0,wn 6 5,wc 7 .eql 6 0]
@[simp]def e7S:=[wb 2 false]
@[simp]def e8S:=[wk 3 0]
@[simp]def e9S:=[wm 8 3,wm 9 0,wn 10 9,wt 11 .lss 8 10]
@[simp]def e0T:=[wm 14 0,wm 15 3,wc 16 .add 15 1,wm 17 0,wn 18 17,wt 19 .rem 16 18,wi 20 8 14 19,ws 21 20 8,oo 4 (.alloc [zi,zi,zi,zi,zb,zi,zs,zb]),wo 4 21 8]
@[simp]def e1T:VT:=
 ym 22 0<|ym 23 3<|yi 24 8 22 23<|Yf 25 1 24<|yl 26 25<|Yf 27 0 4<|yl 28 27<|vt 29 .neq 26 28<|ym 30 29<|V (qm 31 30 0)<|V (qm 32 30 3)<|V (og 33 30 false (.cut 8 (T 31) none (some (T 32))))<|V (qm 34 30 0)<|V (qm 35 30 3)<|V (qi 36 30 8 34 35)<|V (jf 37 30 1 36)<|V (ql 38 30 37)<|V (X2 39 30 Ma 33 38)<|vq 40 30 39<|.done
@[simp]def e2T:=[wb 2 false]
@[simp]def e3T:=[wm 12 3,wc 13 .add 12 1,wm 3 13]
def He:Z9:=
 (Q (QR e9S (CX 11 0)) (Q (.block 1 (QR e0T (Q (.any e1T) (CR 40 e2T)))) (R e3T)))
@[simp]def tM:=[wb 2 true]
def a1l:Z9:=(QR e5S (Q (QR e6S (CR 7 e7S)) (Q (QR e8S (.block 0 (.loop He))) (QR tM .ret))))
theorem pG:Zz prog Ub=some (41,a1l,[.tmp 2]):=by kernel_rfl
@[simp]def e4T:=[wz 4 1,wb 5 false]
@[simp]def e5T:=[wz 6 1]
@[simp]def e6T:=[wk 7 0]
@[simp]def e7T:=[wm 14 7,wm 15 1,wn 16 15,wt 17 .lss 14 16]
@[simp]def e8T:=[wm 20 6,wm 21 1,wm 22 7,wi 23 1 21 22,wl 24 23,Y2 25 QH 20 24,wc 26 .lss 25 0]
@[simp]def e9T:=[wm 27 6,wm 28 1,wm 29 7,wi 30 1 28 29,wl 31 30,oo 32 (.lit 1 1 [(0,(T 31))]),oo 33 (.app 1 8 (T 27) (T 32)),wm 6 33]
@[simp]def e0U:=[wm 18 7,wc 19 .add 18 1,wm 7 19]
def MJ:Z9:=
 (Q (QR e7T (CX 17 0)) (Q (.block 1 (QR e8T (CT 26 (R e9T) .skip))) (R e0U)))
@[simp]def e1U:=[wz 8 1]
@[simp]def e2U:=[wm 34 6,wn 35 34,wc 36 .gtr 35 0]
@[simp]def tL:=[wk 9 (-1)]
@[simp]def tK:=[wk 10 0]
@[simp]def tJ:=[wm 37 10,wm 38 6,wn 39 38,wt 40 .lss 37 39]
@[simp]def tI:=[wb 11 true]
@[simp]def tH:=[wk 12 0]
@[simp]def tG:=[wm 43 12,wm 44 0,wn 45 44,wt 46 .lss 43 45]
@[simp]def tF:VT:=
 ym 49 0<|ym 50 12<|yi 51 8 49 50<|Yf 52 1 51<|yl 53 52<|ym 54 6<|ym 55 10<|yi 56 1 54 55<|yl 57 56<|vt 58 .eql 53 57<|ym 59 58<|V (Ym 60 59 6)<|V (Ym 61 59 0)<|V (Ym 62 59 12)<|V (Yi 63 59 8 61 62)<|V (qf 64 59 0 63)<|V (Yl 65 59 64)<|V (U2 66 59 QH 60 65)<|V (Yc 67 59 .geq 66 0)<|yp 68 59 67<|.done
@[simp]def tE:=[wb 11 false]
@[simp]def tD:=[wm 47 12,wc 48 .add 47 1,wm 12 48]
def VO:Z9:=
 (Q (QR tG (CX 46 6)) (Q (.block 7 (Q (.any tF) (CT 68 (R tE) .skip))) (R tD)))
@[simp]def tC:VT:=
 ym 69 11<|ym 70 69<|V (Ym 71 70 9)<|V (Yc 72 70 .lss 71 0)<|V (Ym 73 70 72)<|V (qm 74 73 6)<|V (qm 75 73 10)<|V (qi 76 73 1 74 75)<|V (ql 77 73 76)<|V (qm 78 73 6)<|V (qm 79 73 9)<|V (qi 80 73 1 78 79)<|V (ql 81 73 80)<|V (qt 82 73 .lss 77 81)<|V (yq 83 70 73 82)<|yp 84 70 83<|.done
@[simp]def tB:=[wm 85 10,wm 9 85]
@[simp]def tA:=[wm 41 10,wc 42 .add 41 1,wm 10 42]
def Pe:Z9:=
 (Q (QR tJ (CX 40 4)) (Q (.block 5 (QR tI (Q (QR tH (.block 6 (.loop VO))) (Q (.any tC) (CT 84 (R tB) .skip))))) (R tA)))
@[simp]def tz:=[wm 86 9,wc 87 .lss 86 0]
@[simp]def tw:=[wz 4 1,wb 5 false]
@[simp]def tv:=[wm 88 8,wm 89 6,wm 90 9,wi 91 1 89 90,wl 92 91,oo 93 (.lit 1 1 [(0,(T 92))]),oo 94 (.app 1 8 (T 88) (T 93)),wm 8 94]
@[simp]def tu:=[wz 13 1]
@[simp]def tt:=[wm 95 13,wm 96 6,wm 97 9,oo 98 (.cut 1 (T 96) none (some (T 97))),oo 99 (.app 1 8 (T 95) (T 98)),wm 13 99]
@[simp]def tq:=[wm 100 13,wm 101 6,wm 102 9,wc 103 .add 102 1,oo 104 (.cut 1 (T 101) (some (T 103)) none),oo 105 (.app 1 8 (T 100) (T 104)),wm 13 105]
@[simp]def tn:=[wm 106 13,wm 6 106]
def Pc:Z9:=
 (Q (QR e2U (CX 36 2)) (.block 3 (QR tL (Q (QR tK (.block 4 (.loop Pe))) (Q (QR tz (CR 87 tw)) (QR tv (QR tu (QR tt (QR tq (R tn))))))))))
@[simp]def tm:=[wm 107 8,wm 4 107,wb 5 true]
def a2l:Z9:=(QR e4T (QR e5T (Q (QR e6T (.block 0 (.loop MJ))) (QR e1U (Q (.block 2 (.loop Pc)) (QR tm .ret))))))
theorem e3U:Zz prog Mp=some (108,a2l,[.tmp 4, .tmp 5]):=by kernel_rfl
@[simp]def g4c:=[wb 4 false]
@[simp]def g5c:=[wk 5 0]
@[simp]def g6c:=[wm 8 5,wm 9 0,wn 10 9,wt 11 .lss 8 10]
@[simp]def g7c:=[wm 14 1,wm 15 0,wm 16 5,wi 17 8 15 16,yf 18 0 17,wl 19 18,Y2 20 QH 14 19,wm 6 20]
@[simp]def g8c:=[wm 21 1,wm 22 0,wm 23 5,wi 24 8 22 23,yf 25 1 24,wl 26 25,Y2 27 QH 21 26,wm 7 27]
@[simp]def g9c:=[wm 28 6,wc 29 .geq 28 0,wm 30 29,Ym 31 30 7,Yc 32 30 .geq 31 0,wp 33 30 32,wm 34 33,Ym 35 34 6,Ym 36 34 7,Yt 37 34 .geq 35 36,wp 38 34 37]
@[simp]def g0d:=[wb 4 false]
@[simp]def g1d:=[wm 12 5,wc 13 .add 12 1,wm 5 13]
@[simp]def g2d:=[wb 4 true]
@[simp]def e4U:=[wz 6 8]
@[simp]def e5U:=[wm 12 1,Y1 13 T9 12,wm 7 13]
@[simp]def e6U:=[wm 14 0,wn 15 14,wk 16 0]
@[simp]def e7U:=[wt 17 .lss 16 15]
@[simp]def e8U:=[wi 18 8 14 16,ws 19 18 8,oo 9 (.alloc [zi,zi,zi,zi,zb,zi,zs,zb]),wo 9 19 8]
@[simp]def e9U:=[wm 20 7,ws 21 9 8,oo 22 (.Yz (T 20) [(T 21)]),wu 23 22]
@[simp]def e0V:VT:=
 yl 29 28<|V1 31 T9 30<|j4 32 T8 25 27 29 31<|ym 24 32<|ve 33 0 24<|ve 34 1 24<|ym 10 33<|ym 11 34<|.done
@[simp]def e1V:VT:=
 V1 31 T9 30<|yl 29 28<|j4 32 T8 25 27 29 31<|ym 24 32<|ve 33 0 24<|ve 34 1 24<|ym 10 33<|ym 11 34<|.done
@[simp]def e2V:VT:=
 yl 27 26<|.alt (e0V) (e1V)
@[simp]def e3V:VT:=
 yl 27 26<|V1 31 T9 30<|j4 32 T8 25 27 29 31<|ym 24 32<|ve 33 0 24<|ve 34 1 24<|ym 10 33<|ym 11 34<|.done
@[simp]def e4V:VT:=
 V1 31 T9 30<|yl 27 26<|j4 32 T8 25 27 29 31<|ym 24 32<|ve 33 0 24<|ve 34 1 24<|ym 10 33<|ym 11 34<|.done
@[simp]def e5V:VT:=
 yl 29 28<|.alt (e3V) (e4V)
@[simp]def e6V:VT:=
 V1 31 T9 30<|yl 27 26<|yl 29 28<|j4 32 T8 25 27 29 31<|ym 24 32<|ve 33 0 24<|ve 34 1 24<|ym 10 33<|ym 11 34<|.done
@[simp]def e7V:VT:=
 ym 25 0<|Yf 26 1 9<|Yf 28 0 9<|ym 30 2<|.alt (e2V) (.alt (e5V) (e6V))
@[simp]def e8V:=[wm 35 11]
@[simp]def e9V:=[ws 36 9 8,oo 37 (.lit 8 1 [(0,(T 36))]),wm 38 10,oo 39 (.app 8 72 (T 37) (T 38)),wm 6 39]
@[simp]def e0W:=[wc 40 .add 16 1,wm 16 40]
def PY:Z9:=
 (QR e7U (Q (CX 17 0) (Q (.block 1 (QR e8U (Q (QR e9U (CT 23 (.exit 1) .skip)) (Q (.any e7V) (QR e8V (CR 35 e9V)))))) (R e0W))))
@[simp]def tk:=[wz 6 8]
def a4l:Z9:=(QR e4U (QR e5U (Q (QR e6U (.block 0 (.loop PY))) (QR tk .ret))))
theorem ox:Zz prog RY=some (41,a4l,[.tmp 6]):=by kernel_rfl
@[simp]def e1W:=[wz 4 8]
@[simp]def e2W:=[wm 8 0,wm 9 1,Y2 10 HQ 8 9,wm 5 10]
@[simp]def e3W:=[wm 11 5,wc 12 .eql 11 (-1)]
@[simp]def e4W:=[wm 13 0,wm 4 13]
@[simp]def e5W:=[wm 14 5,wc 15 .add 14 1,wm 6 15]
@[simp]def e6W:=[wm 16 6,wm 17 0,wn 18 17,wt 19 .lss 16 18]
@[simp]def e7W:=[wm 22 0,wm 23 6,wi 24 8 22 23,ws 25 24 8,oo 7 (.alloc [zi,zi,zi,zi,zb,zi,zs,zb]),wo 7 25 8]
@[simp]def e8W:=[wm 26 1,ws 27 7 8,oo 28 (.Yz (T 26) [(T 27)]),wu 29 28]
@[simp]def e9W:=[wm 30 0,wm 31 5,ws 32 7 8,wi 33 8 30 31,wo 33 32 8]
@[simp]def e0X:=[wm 34 5,wc 35 .add 34 1,wm 5 35]
@[simp]def tj:=[wm 20 6,wc 21 .add 20 1,wm 6 21]
def Qb:Z9:=
 (Q (QR e6W (CX 19 0)) (Q (.block 1 (QR e7W (QR e8W (CT 29 (QR e9W (R e0X)) .skip)))) (R tj)))
@[simp]def tf:=[wm 36 0,wm 37 5,oo 38 (.cut 8 (T 36) (some (T 37)) none),on (.clr 8 [zi,zi,zi,zi,zb,zi,zs,zb] (T 38))]
@[simp]def td:=[wm 39 0,wm 40 5,oo 41 (.cut 8 (T 39) none (some (T 40))),wm 4 41]
def a5l:Z9:=(QR e1W (QR e2W (Q (QR e3W (CR 12 e4W)) (Q (QR e5W (.block 0 (.loop Qb))) (QR tf (QR td .ret))))))
theorem G8:Zz prog Me=some (42,a5l,[.tmp 4]):=by kernel_rfl
@[simp]def e1X:=[wz 2 8]
@[simp]def e2X:=[wm 3 0,oo 4 (.Qg false (T 3))]
@[simp]def e3X:=[wz 2 8]
@[simp]def e4X:=[oo 5 (.lit 8 0 []),wm 6 0,oo 7 (.app 8 72 (T 5) (T 6)),wm 2 7]
def a6l:Z9:=(QR e1X (Q (QR e2X (CR 4 e3X)) (QR e4X .ret)))
theorem pw:Zz prog Md=some (8,a6l,[.tmp 2]):=by kernel_rfl
@[simp]def e5X:=[wx 4 1,wx 5 2,wz 6 8]
@[simp]def e6X:=[wk 7 0]
@[simp]def e7X:=[wm 11 7,wm 12 0,wn 13 12,wt 14 .lss 11 13]
@[simp]def e8X:VT:=
 Ys 17 4 7<|ym 18 0<|ym 19 7<|yi 20 8 18 19<|Ys 21 20 8<|V2 22 LY 17 21<|ym 8 22<|.done
@[simp]def e9X:=[wm 23 8,wu 24 23]
@[simp]def e0Y:=[wk 9 0]
@[simp]def e1Y:=[wm 25 9,wm 26 0,wn 27 26,wt 28 .leq 25 27]
@[simp]def e2Y:VT:=
 ym 31 0<|ym 32 0<|ym 33 7<|yi 34 8 32 33<|Ys 35 34 8<|Ys 37 5 7<|ym 38 9<|oc 36 (.lit 8 1 [(0,(T 35))])<|j4 39 LX 31 36 37 38<|ym 10 39<|.done
@[simp]def e3Y:=[wm 40 10,wn 41 40,wc 42 .gtr 41 0]
@[simp]def e4Y:=[wm 43 10,wm 6 43]
@[simp]def ta:=[wm 29 9,wc 30 .add 29 1,wm 9 30]
def P2:Z9:=
 (Q (QR e1Y (CX 28 2)) (Q (.block 3 (Q (.any e2Y) (QR e3Y (CR 42 e4Y)))) (R ta)))
@[simp]def s9:=[wm 15 7,wc 16 .add 15 1,wm 7 16]
def P3:Z9:=
 (Q (QR e7X (CX 14 0)) (Q (.block 1 (Q (.any e8X) (Q (QR e9X (CT 24 (.exit 1) .skip)) (QR e0Y (.block 2 (.loop P2)))))) (R s9)))
@[simp]def s8:=[wz 6 8]
def a7l:Z9:=(QR e5X (Q (QR e6X (.block 0 (.loop P3))) (QR s8 .ret)))
theorem oF:Zz prog Mc=some (44,a7l,[.tmp 6]):=by kernel_rfl
@[simp]def e5Y:=[wb 4 false]
@[simp]def e6Y:=[wk 5 0]
@[simp]def e7Y:=[wm 6 5,wm 7 0,wn 8 7,wt 9 .lss 6 8]
@[simp]def e8Y:=[wm 12 0,wm 13 5,wi 14 8 12 13,yf 15 1 14,wl 16 15,wm 17 1,wt 18 .eql 16 17]
@[simp]def e9Y:=[wb 4 true]
@[simp]def e0Z:=[wm 10 5,wc 11 .add 10 1,wm 5 11]
def FB:Z9:=
 (Q (QR e7Y (CX 9 0)) (Q (.block 1 (QR e8Y (CR 18 e9Y))) (R e0Z)))
@[simp]def e1Z:=[wb 4 false]
def e8d:Z9:=(QR e5Y (Q (QR e6Y (.block 0 (.loop FB))) (QR e1Z .ret)))
theorem e2Z:Zz prog Ma=some (19,e8d,[.tmp 4]):=by kernel_rfl
@[simp]def e3Z:=[wk 4 0]
@[simp]def e4Z:=[wk 5 0]
@[simp]def e5Z:=[wm 6 5,wm 7 0,wn 8 7,wt 9 .lss 6 8]
@[simp]def e6Z:=[wm 12 0,wm 13 5,wi 14 1 12 13,wl 15 14,wm 16 1,wt 17 .eql 15 16]
@[simp]def e7Z:=[wm 18 5,wm 4 18]
@[simp]def e8Z:=[wm 10 5,wc 11 .add 10 1,wm 5 11]
def FA:Z9:=
 (Q (QR e5Z (CX 9 0)) (Q (.block 1 (QR e6Z (CR 17 e7Z))) (R e8Z)))
@[simp]def e9Z:=[wk 4 (-1)]
def e9d:Z9:=(QR e3Z (Q (QR e4Z (.block 0 (.loop FA))) (QR e9Z .ret)))
theorem f0a:Zz prog QH=some (19,e9d,[.tmp 4]):=by kernel_rfl
@[simp]def g3d:=[wz 4 1,wb 5 false]
@[simp]def g4d:=[wm 15 1,Y1 16 L4 15,wm 6 16]
@[simp]def g5d:=[wm 17 6,Y1 18 L5 17]
@[simp]def g6d:=[wm 19 6,Y1 20 f6h 19,wm 6 20]
@[simp]def g7d:=[oo 21 (.XD (false,[.i .i64],false)),oo 7 (.alloc [.iv (.v (.map none))]),wo 7 21 1]
@[simp]def g8d:=[wm 22 0,wn 23 22,wk 24 0]
@[simp]def g9d:=[wt 25 .lss 24 23]
@[simp]def g0e:=[wi 26 8 22 24,ws 27 26 8,oo 9 (.alloc [zi,zi,zi,zi,zb,zi,zs,zb]),wo 9 27 8]
@[simp]def g1e:=[wm 28 6,yf 29 0 9,wl 30 29,Y2 31 LV 28 30]
@[simp]def g2e:=[wl 32 7,yf 33 1 9,wl 34 33,oo 35 (.UT (false,[.i .i64],false) [zi] (T 32) (T 34) false),wc 36 .add 35 1,on (.YI (false,[.i .i64],false) (T 32) (T 34) (T 36))]
@[simp]def f0K:=[wc 37 .add 24 1,wm 24 37]
@[simp]def f1K:=[wz 10 1]
@[simp]def f2K:=[wm 38 6,wn 39 38,wc 40 .gtr 39 0]
@[simp]def f3K:=[wm 41 6,oo 42 (.V6 f8h [] [(T 7)]),Y2 43 f7h 41 42,wm 11 43]
@[simp]def f4K:=[wm 44 11,wc 45 .lss 44 0]
@[simp]def f5K:=[wz 4 1,wb 5 false]
@[simp]def f6K:=[wm 46 6,wm 47 11,wi 48 1 46 47,wl 49 48,wm 12 49]
@[simp]def f7K:=[wm 50 10,wm 51 12,oo 52 (.lit 1 1 [(0,(T 51))]),oo 53 (.app 1 8 (T 50) (T 52)),wm 10 53]
@[simp]def f8K:=[wm 54 6,wm 55 11,wm 56 11,wc 57 .add 56 1,Y3 58 f9h 54 55 57,wm 6 58]
@[simp]def f9K:=[wm 59 0,wn 60 59,wk 61 0]
@[simp]def f0L:=[wt 62 .lss 61 60]
@[simp]def f1L:=[wi 63 8 59 61,ws 64 63 8,oo 14 (.alloc [zi,zi,zi,zi,zb,zi,zs,zb]),wo 14 64 8]
@[simp]def f2L:=[yf 65 0 14,wl 66 65,wm 67 12,wt 68 .eql 66 67]
@[simp]def f3L:=[wl 69 7,yf 70 1 14,wl 71 70,oo 72 (.UT (false,[.i .i64],false) [zi] (T 69) (T 71) false),wc 73 .sub 72 1,on (.YI (false,[.i .i64],false) (T 69) (T 71) (T 73))]
@[simp]def f4L:=[wc 74 .add 61 1,wm 61 74]
@[simp]def f5L:=[wm 75 10,wm 4 75,wb 5 true]
@[simp]def f1a:=[wx 1 0,oo 2 (.Td (.const .nilFunc))]
@[simp]def f2a:=[oo 3 (.V6 RV [] [(T 1)]),wm 2 3]
def Fz:Z9:=(QR f1a (QR f2a .ret))
theorem f3a:Zz prog T9=some (4,Fz,[.tmp 2]):=by kernel_rfl
@[simp]def f4a:=[wz 8 8,wb 9 false]
@[simp]def f5a:=[oo 22 (.XD (false,[.i .i64],false)),wm 23 1,on (.YI (false,[.i .i64],false) (T 22) (T 23) (K (-1))),wm 24 22,wm 10 24]
@[simp]def f6a:=[wm 25 1,oo 26 (.lit 1 1 [(0,(T 25))]),wm 11 26]
@[simp]def f7a:=[wm 27 1,wm 28 2,wt 29 .eql 27 28,wm 12 29]
@[simp]def f8a:=[wm 30 11,wn 31 30,wc 32 .gtr 31 0,wm 33 32,Ym 34 33 12,yu 35 33 34,wp 36 33 35]
@[simp]def f9a:=[wz 13 1]
@[simp]def f0b:=[wm 37 11,wn 38 37,wk 39 0]
@[simp]def f1b:=[wt 40 .lss 39 38]
@[simp]def f2b:=[wi 41 1 37 39,wl 42 41,wm 15 42]
@[simp]def f3b:=[wm 43 0,wn 44 43,wk 45 0]
@[simp]def s7:=[wt 46 .lss 45 44]
@[simp]def s6:=[wm 47 45,wi 48 8 43 45,ws 49 48 8,oo 17 (.alloc [zi,zi,zi,zi,zb,zi,zs,zb]),wm 16 47,wo 17 49 8]
@[simp]def s5:=[yf 50 0 17,wl 51 50,wm 52 15,wt 53 .neq 51 52,wm 54 53,qm 55 54 3,Ws 56 54 17 8,og 57 54 false (.Yz (T 55) [(T 56)]),Yu 58 54 57,wq 59 54 58]
@[simp]def s4:=[wm 61 10,yf 62 1 17,wl 63 62,oo 64 (.UT (false,[.i .i64],false) [zi] (T 61) (T 63) true),wm 60 64,we 65 0 60,we 66 1 60,wm 18 65,wm 19 66]
@[simp]def sZ:=[wm 67 19]
@[simp]def sY:=[wm 68 10,yf 69 1 17,wl 70 69,wm 71 16,on (.YI (false,[.i .i64],false) (T 68) (T 70) (T 71))]
@[simp]def sX:=[yf 72 1 17,wl 73 72,wm 74 2,wt 75 .eql 73 74]
@[simp]def sW:=[wb 12 true]
@[simp]def sV:=[wm 76 13,yf 77 1 17,wl 78 77,oo 79 (.lit 1 1 [(0,(T 78))]),oo 80 (.app 1 8 (T 76) (T 79)),wm 13 80]
@[simp]def sU:=[wc 81 .add 45 1,wm 45 81]
def VQ:Z9:=
 (QR s7 (Q (CX 46 4) (Q (.block 5 (QR s6 (Q (QR s5 (CT 59 (.exit 5) .skip)) (Q (QR s4 (QR sZ (CT 67 (.exit 5) .skip))) (QR sY (Q (QR sX (CT 75 (QR sW (.exit 0)) .skip)) (R sV))))))) (R sU))))
@[simp]def sS:=[wc 82 .add 39 1,wm 39 82]
def Pg:Z9:=
 (QR f1b (Q (CX 40 2) (Q (.block 3 (QR f2b (QR f3b (.block 4 (.loop VQ))))) (R sS))))
@[simp]def sR:=[wm 83 13,wm 11 83]
def Sf:Z9:=
 (Q (QR f8a (CX 36 0)) (.block 1 (QR f9a (Q (QR f0b (.block 2 (.loop Pg))) (R sR)))))
@[simp]def sQ:=[wz 20 8]
@[simp]def sP:=[wm 84 2,wm 21 84]
@[simp]def sO:=[wm 85 12,wm 86 85,Ym 87 86 10,Ym 88 86 21,og 89 86 true (.UT (false,[.i .i64],false) [zi] (T 87) (T 88) false),Yc 90 86 .geq 89 0,wp 91 86 90]
@[simp]def sN:=[wm 99 20,wm 100 0,wm 101 10,wm 102 21,oo 103 (.UT (false,[.i .i64],false) [zi] (T 101) (T 102) false),wi 104 8 100 103,ws 105 104 8,oo 106 (.lit 8 1 [(0,(T 105))]),oo 107 (.app 8 72 (T 99) (T 106)),wm 20 107]
@[simp]def sM:=[wm 92 0,wm 93 10,wm 94 21,oo 95 (.UT (false,[.i .i64],false) [zi] (T 93) (T 94) false),wi 96 8 92 95,yf 97 0 96,wl 98 97,wm 21 98]
def U6:Z9:=
 (Q (QR sO (CX 91 6)) (Q (.block 7 (R sN)) (R sM)))
@[simp]def sL:=[wm 108 20,Y1 109 LN 108]
@[simp]def sK:=[wm 110 20,wm 111 12,wm 8 110,wm 9 111]
def Rs:Z9:=(QR f4a (.scope (QR f5a (QR f6a (QR f7a (Q .skip (Q (.block 0 (.loop Sf)) (QR sQ (Q (QR sP (.block 6 (.loop U6))) (QR sL (QR sK .ret)))))))))))
theorem FN:Zz prog T8=some (112,Rs,[.tmp 8, .tmp 9]):=by kernel_rfl
@[simp]def f4b:=[wk 4 0]
@[simp]def f5b:=[wm 6 0,wn 7 6,wk 8 0]
@[simp]def f6b:=[wt 9 .lss 8 7]
@[simp]def f7b:=[wm 10 8,wm 5 10]
@[simp]def f8b:=[wm 11 1,wm 12 0,wm 13 5,wi 14 8 12 13,ws 15 14 8,oo 16 (.Yz (T 11) [(T 15)])]
@[simp]def f9b:=[wm 17 5,wm 4 17]
@[simp]def f0c:=[wc 18 .add 8 1,wm 8 18]
def G9:Z9:=
 (QR f6b (Q (CX 9 0) (Q (.block 1 (QR f7b (QR f8b (CR 16 f9b)))) (R f0c))))
@[simp]def f1c:=[wk 4 (-1)]
def a4m:Z9:=(QR f4b (Q (QR f5b (.block 0 (.loop G9))) (QR f1c .ret)))
theorem px:Zz prog HQ=some (19,a4m,[.tmp 4]):=by kernel_rfl
@[simp]def f2c:=[wx 2 0,wx 3 1,wb 4 false]
@[simp]def f3c:=[yf 5 2 3,wl 6 5,wc 7 .lss 6 1,wm 8 7,jf 9 8 2 3,ql 10 8 9,qc 11 8 .gtr 10 5,wq 12 8 11]
@[simp]def f4c:=[wb 4 false]
@[simp]def f5c:=[yf 13 0 2,wl 14 13,yf 15 2 3,wl 16 15,oo 17 (.cvt .u64 (T 16)),wt 18 .shr 14 17,wc 19 .and 18 1,wc 20 .eql 19 1,wm 21 20,qf 22 21 1 2,Yl 23 21 22,yu 24 21 23,Ym 25 21 24,jf 26 25 3 3,ql 27 25 26,jf 28 25 2 2,ql 29 25 28,qt 30 25 .eql 27 29,qm 31 25 30,qf 32 31 4 3,qs 33 31 32 3,qf 34 31 3 2,qs 35 31 34 3,og 36 31 true (.eqs false [.b, .i .i64, .s] (T 33) (T 35)),qp 37 25 31 36,yq 38 21 25 37,wp 39 21 38,wm 40 39,qf 41 40 6 2,Yl 42 40 41,yu 43 40 42,Ym 44 40 43,jf 45 44 7 3,ql 46 44 45,yq 47 40 44 46,wp 48 40 47,wm 4 48]
def a5m:Z9:=(QR f2c (Q (QR f3c (CR 12 f4c)) (QR f5c .ret)))
theorem oq:Zz prog LY=some (49,a5m,[.tmp 4]):=by kernel_rfl
@[simp]def f6c:=[wx 6 2,wz 8 8]
@[simp]def f7c:=[wm 15 1,wm 16 1,wn 17 16,wc 18 .sub 17 1,wi 19 8 15 18,ws 20 19 8,oo 9 (.alloc [zi,zi,zi,zi,zb,zi,zs,zb]),wo 9 20 8]
@[simp]def f8c:=[wm 21 3,wc 22 .eql 21 0]
@[simp]def f9c:VT:=
 Yf 23 1 9<|yl 24 23<|ym 25 1<|oc 26 (.ia 8 (T 25) (K 0))<|Yf 27 0 26<|yl 28 27<|vt 29 .eql 24 28<|.done
@[simp]def f0d:=[wm 30 1,wm 8 30]
@[simp]def f1d:=[wz 8 8]
@[simp]def f2d:=[wk 10 0]
@[simp]def f3d:=[wm 31 10,wm 32 0,wn 33 32,wt 34 .lss 31 33]
@[simp]def f4d:=[wm 37 0,wm 38 10,wi 39 8 37 38,ws 40 39 8,oo 11 (.alloc [zi,zi,zi,zi,zb,zi,zs,zb]),wo 11 40 8]
@[simp]def f5d:=[ws 41 6 7,ws 42 11 8,Y2 43 LY 41 42,wm 12 43]
@[simp]def sJ:=[wm 44 12,wu 45 44,wm 46 45,jf 47 46 0 11,ql 48 46 47,jf 49 46 1 9,ql 50 46 49,qt 51 46 .neq 48 50,wq 52 46 51,wm 53 52,qm 54 53 1,jf 55 53 1 11,ql 56 53 55,X2 57 53 Ma 54 56,wq 58 53 57]
@[simp]def sI:=[wz 13 8]
@[simp]def sH:=[wm 59 13,wm 60 1,oo 61 (.app 8 72 (T 59) (T 60)),wm 13 61]
@[simp]def sG:=[wm 62 13,ws 63 11 8,oo 64 (.lit 8 1 [(0,(T 63))]),oo 65 (.app 8 72 (T 62) (T 64)),wm 13 65]
@[simp]def sF:=[wm 66 0,wm 67 13,ws 68 6 7,wm 69 3,wc 70 .sub 69 1,Y4 71 LX 66 67 68 70,wm 14 71]
@[simp]def sE:=[wm 72 14,wn 73 72,wc 74 .gtr 73 0]
@[simp]def sD:=[wm 75 14,wm 8 75]
@[simp]def sC:=[wm 35 10,wc 36 .add 35 1,wm 10 36]
def PV:Z9:=
 (Q (QR f3d (CX 34 0)) (Q (.block 1 (QR f4d (QR f5d (Q (QR sJ (CT 58 (.exit 1) .skip)) (QR sI (QR sH (QR sG (QR sF (QR sE (CR 74 sD)))))))))) (R sC)))
@[simp]def sB:=[wz 8 8]
def e0e:Z9:=(QR f6c (QR f7c (Q (QR f8c (CT 22 (Q (Q (.any f9c) (CR 29 f0d)) (QR f1d .ret)) .skip)) (Q (QR f2d (.block 0 (.loop PV))) (QR sB .ret)))))
theorem GB:Zz prog LX=some (76,e0e,[.tmp 8]):=by kernel_rfl
@[simp]def f6d:=[wb 4 false]
@[simp]def f7d:=[wm 5 0,wm 6 1,Y2 7 HF 5 6,wc 8 .geq 7 0,wm 4 8]
def J0:Z9:=(QR f6d (QR f7d .ret))
theorem f8d:Zz prog LV=some (9,J0,[.tmp 4]):=by kernel_rfl
@[simp]def g3e:=[wk 4 0]
@[simp]def g4e:=[wm 6 0,wn 7 6,wk 8 0]
@[simp]def g5e:=[wt 9 .lss 8 7]
@[simp]def g6e:=[wm 10 8,wm 5 10]
@[simp]def g7e:=[wm 11 1,wm 12 0,wm 13 5,wi 14 1 12 13,wl 15 14,oo 16 (.Yz (T 11) [(T 15)])]
@[simp]def g8e:=[wm 17 5,wm 4 17]
@[simp]def g9e:=[wc 18 .add 8 1,wm 8 18]
@[simp]def g0f:=[wk 4 (-1)]
@[simp]def g1f:=[wb 3 false]
@[simp]def g2f:=[wl 4 1,wm 5 0,oo 6 (.UT (false,[.i .i64],false) [zi] (T 4) (T 5) false),wc 7 .eql 6 0,wm 3 7]
@[simp]def f9d:=[wx 2 0,wb 3 false]
@[simp]def f0e:=[wl 4 1,yf 5 2 2,wl 6 5,Y2 7 LV 4 6,wm 3 7]
def a1n:Z9:=(QR f9d (QR f0e .ret))
theorem f1e:Zz prog RV=some (8,a1n,[.tmp 3]):=by kernel_rfl
@[simp]def f2e:=[wm 4 0,wn 5 4,wc 6 .sub 5 1,wk 2 0,wm 3 6]
@[simp]def f3e:=[wm 7 2,wm 8 3,wt 9 .lss 7 8]
@[simp]def f4e:VT:=
 ym 14 0<|ym 15 2<|ym 16 0<|ym 17 3<|ym 18 0<|ym 19 3<|yi 20 8 18 19<|Ys 21 20 8<|ym 22 0<|ym 23 2<|yi 24 8 22 23<|Ys 25 24 8<|yi 26 8 14 15<|V (wo 26 21 8)<|yi 27 8 16 17<|V (wo 27 25 8)<|.done
@[simp]def f5e:=[wm 10 2,wc 11 .add 10 1,wm 12 3,wc 13 .sub 12 1,wm 2 11,wm 3 13]
def MQ:Z9:=
 (Q (QR f3e (CX 9 0)) (Q (.block 1 (.any f4e)) (R f5e)))
def a2n:Z9:=(QR f2e (.block 0 (.loop MQ)))
theorem e9B:Zz prog LN=some (28,a2n,[]):=by kernel_rfl
@[simp]def f6e:=[wk 4 0]
@[simp]def f7e:=[wm 6 0,wn 7 6,wk 8 0]
@[simp]def f8e:=[wt 9 .lss 8 7]
@[simp]def f9e:=[wm 10 8,wm 5 10]
@[simp]def f0f:=[wm 11 1,wm 12 0,wm 13 5,wi 14 1 12 13,wl 15 14,wt 16 .eql 11 15]
@[simp]def f1f:=[wm 17 5,wm 4 17]
@[simp]def f2f:=[wc 18 .add 8 1,wm 8 18]
def Fy:Z9:=
 (QR f8e (Q (CX 9 0) (Q (.block 1 (QR f9e (QR f0f (CR 16 f1f)))) (R f2f))))
@[simp]def f3f:=[wk 4 (-1)]
def JZ:Z9:=(QR f6e (Q (QR f7e (.block 0 (.loop Fy))) (QR f3f .ret)))
theorem f4f:Zz prog HF=some (19,JZ,[.tmp 4]):=by kernel_rfl
end Go.Rt
end

section
namespace Go.Vm
theorem c1X{P:Program}{d:Nat}{f:FuncId}{pre post:List Z3}{ops:List Operand}{y:Option Operand}{s:St}{K K':St->AV->Prop}(hK:∀s x,K s x->K' s x)
 (h:LC P d f pre ops post y s K):LC P d f pre ops post y s K':=by
 unfold LC at*;obtain⟨s0,h0,fr,H,R,s1,a,b,as1,d,c,k⟩:=h;exact⟨s0,h0,fr,H,R,s1,a,b,as1,d,c,fun r K e=>hK _ _ (k r K e)⟩
theorem c2X{P:Program}{l:Nat}{ops:List Operand}{s:St}{K K':St->AV->Prop}(hK:∀s x,K s x->K' s x)(h:c1L P l ops s K):c1L P l ops s K':=by
 obtain⟨s1,g,Z,b,Z',xs,h1,h2,h3,h4,h5⟩:=h;exact⟨s1,g,Z,b,Z',xs,h1,h2,h3,h4,hK _ _ h5⟩
theorem c3X{P:Program}{d:Nat}{s:St}{K K':St->AV->Prop}(hK:∀s x,K s x->K' s x)(r:Wu):ZP P d s K r->ZP P d s K' r:=by
 unfold ZP
 repeat' split
 all_goals intro h
 all_goals first
  |exact hK _ _ h
  |exact h.elim
  |exact⟨h.1,hK _ _ h.2⟩
  |exact⟨h.1,h.2.1,hK _ _ h.2.2⟩
  |exact⟨h.1,h.2.1,h.2.2.1,hK _ _ h.2.2.2⟩
  |exact⟨h.1,h.2.1,h.2.2.1,h.2.2.2.1,hK _ _ h.2.2.2.2⟩
  |exact⟨h.1,h.2.1,h.2.2.1,h.2.2.2.1,h.2.2.2.2.1,hK _ _ h.2.2.2.2.2⟩
  |exact⟨h.1,h.2.1,h.2.2.1,h.2.2.2.1,h.2.2.2.2.1,h.2.2.2.2.2.1,hK _ _ h.2.2.2.2.2.2⟩
  |exact⟨h.1,h.2.1,h.2.2.1,h.2.2.2.1,h.2.2.2.2.1,h.2.2.2.2.2.1,h.2.2.2.2.2.2.1,hK _ _ h.2.2.2.2.2.2.2⟩
  |exact⟨h.1,h.2.1,h.2.2.1,h.2.2.2.1,h.2.2.2.2.1,h.2.2.2.2.2.1,h.2.2.2.2.2.2.1,h.2.2.2.2.2.2.2.1,hK _ _ h.2.2.2.2.2.2.2.2⟩
  |exact fun b hb=>hK _ _ (h b hb)
  |exact fun c hc=>hK _ _ (h c hc)
  |exact⟨h.1,h.2.1,fun n=>hK _ _ (h.2.2 n)⟩
  |exact⟨h.1,fun L a b c=>hK _ _ (h.2 L a b c)⟩
  |exact⟨fun e=>hK _ _ (h.1 e),fun k c a b e=>hK _ _ (h.2 k c a b e)⟩
  |exact c1X hK h
  |exact⟨h.1,c1X hK h.2⟩
  |exact⟨h.1,h.2.1,c2X hK h.2.2⟩
  |exact⟨h.1,h.2.1,h.2.2.1,c1X hK h.2.2.2⟩
  |exact h
theorem c4X{P:Program}:∀{l:List Yv} {s:St} {K K':St->Prop},(∀s,K s->K' s)->Uy P l s K->Uy P l s K'
 | [],s,K,K',hK,h=>hK _ h
 |o::r,s,K,K',hK,h=>d6s (fun _ h=>c4X hK h) (fun _ _ _ _ hK _=>c3X hK _) h
theorem c5X{P:Program}:∀{t:VT} {s:St} {K K':St->Prop},(∀s,K s->K' s)->Uc P t s K->Uc P t s K'
 | .done,s,K,K',hK,h=>hK _ h
 | .op o t,s,K,K',hK,h=>d6s (fun _ h=>c5X hK h) (fun _ _ _ _ hK _=>c3X hK _) h
 | .alt a b,s,K,K',hK,h=>⟨c5X hK h.1,c5X hK h.2⟩
theorem Eo{P:Program}(c:Z9):∀{s:St} {O O':YC},(∀s,O.n s->O'.n s)->(∀i s,O.x i s->O'.x i s)->(∀s,O.r s->O'.r s)->(∀i s,O.g i s->O'.g i s)->X5 P c s O->X5 P c s O':=by
 induction c with
 |skip=>exact fun hn hx hr hg h=>hn _ h
 |E7 ops=>exact fun hn hx hr hg h=>c4X hn h
 |any t=>exact fun hn hx hr hg h=>c5X hn h
 |seq a b EJ ihb=>
  intro s O O' hn hx hr hg h;exact EJ (O:={O with n:=fun s'=>X5 P b s' O}) (O':={O' with n:=fun s'=>X5 P b s' O'}) (fun _ h=>ihb hn hx hr hg h) hx hr hg h
 |cond x t e iht ihe=>
  intro s O O' hn hx hr hg h;simp only[X5]at h⊢;split at h
  ·exact⟨fun hb=>iht hn hx hr hg (h.1 hb),fun hb=>ihe hn hx hr hg (h.2 hb)⟩
  ·exact h.elim
 |block id c ih=>
  intro s O O' hn hx hr hg h;refine ih (O:={O with x:=fun j s'=>if j=id then O.n s' else O.x j s'}) (O':={O' with x:=fun j s'=>if j=id then O'.n s' else O'.x j s'}) hn (fun i s h=>?_) hr hg h;simp only at h⊢;split
  ·rw[if_pos (by assumption)]at h;exact hn _ h
  ·rw[if_neg (by assumption)]at h;exact hx _ _ h
 |loop c ih=>
  intro s O O' hn hx hr hg h;obtain⟨I,hi,h⟩:=h;exact⟨I,hi,fun k s' hs=>ih (O:={O with n:=fun s2=>∃m s3,m<k/\Le s2 s3/\I m s3}) (O':={O' with n:=fun s2=>∃m s3,m<k/\Le s2 s3/\I m s3}) (fun _ h=>h) hx hr hg (h k s' hs)⟩
 |exit id=>exact fun hn hx hr hg h=>hx _ _ h
 |ret=>exact fun hn hx hr hg h=>hr _ h
 |goto l=>exact fun hn hx hr hg h=>hg _ _ h
 |scope c ih=>
  intro s O O' hn hx hr hg h;exact ih (O:={O with g:=fun _ _=>False}) (O':={O' with g:=fun _ _=>False}) hn hx hr (fun _ _ h=>h) h
 |WR c l r ihc ihr=>
  intro s O O' hn hx hr hg h
  exact ihc (O:={O with g:=fun l' s'=>l'=l/\X5 P r s' {O with g:=fun _ _=>False}}) (O':={O' with g:=fun l' s'=>l'=l/\X5 P r s' {O' with g:=fun _ _=>False}}) hn hx hr
   (fun _ _ h=>⟨h.1,ihr (O:={O with g:=fun _ _=>False}) (O':={O' with g:=fun _ _=>False}) hn hx hr (fun _ _ h=>h) h.2⟩) h
 |QY g ps x y ihx ihy=>exact fun hn hx hr hg h=>e0r ihx ihy hn hx hr h
class Tg {α:Type} (x:α):Type where
 mk::
instance tg {α:Type} (x:α):Tg x:=⟨⟩
def NC(P:Program)(d:Nat)(f:FuncId)(pre:List Z3)(ops:List Operand)(post:List Z3)(y:Option Operand)(s:St)(K:St->AV->Prop)[Tg K]:Prop:=LC P d f pre ops post y s K
def Hy(P:Program)(g:Operand)(ps:List Nat)(x y:Z9)(s:St)(O:YC)[Tg x][Tg y][Tg O]:Prop:=Ny P (X5 P x) (X5 P y) g ps s O
def a7R(P:Program)(l:Nat)(ops:List Operand)(s:St)(K:St->AV->Prop)[Tg K]:Prop:=c1L P l ops s K
def Fh(P:Program)(c:Z9)(s:St)(O:YC)[Tg c][Tg O]:Prop:=LB (X5 P c) s O
def rS(x:AV)(K:Bool->Prop)[Tg K]:Prop:=match x with| .iv (.v (.bool b))=>K b| _=>False
def onG(x:AV)(K:Bool->Prop)[Tg K](U:Prop):Prop:=match x with| .iv (.v (.bool b))=>K b| .un=>U| _=>False
def El(x:AV)(A B:Prop)[Tg A][Tg B]:Prop:=match x with| .iv (.v (.bool b))=>(b=true->A)/\(b=false->B)| _=>False
def Nx(x:AV)(b:Bool)(A B U:Prop)[Tg A][Tg B][Tg U]:Prop:=match x with| .iv (.v (.bool c))=>(c=b->A)/\(c= !b->B)| .un=>U| _=>False
def Ot(s:St)(K:St->Prop)[Tg K]:Prop:=K s
def rR(x:AV)(K:Value->Prop)[Tg K]:Prop:=match x with| .iv (.v u)=>K u| _=>False
def Jf(x:AV)(K:Int->Prop)[Tg K]:Prop:=match x with| .iv (.v (.int _ m))=>K m| _=>False
def pX(x:AV)(K:ByteArray->Prop)[Tg K]:Prop:=match x with| .iv (.v (.string t))=>K t| _=>False
def Yx{α:Type}(x:Option α)(K:α->Prop)[Tg K]:Prop:=match x with|some y=>K y|none=>False
def Fa(x:AV)(K:List AV->Prop)[Tg K]:Prop:=match x with| .agg cs=>K cs| _=>False
def a0S(x:AV)(K:List AV->Prop)[Tg K]:Prop:=match x with| .Zp cs=>K cs| _=>False
def Hw(x:Option Ob)(K:List AV->Prop)[Tg K]:Prop:=match x with|some (.box cs)=>K cs| _=>False
def Hv(x:Option Ob)(K:Nat->List (List IV)->Prop)[Tg K]:Prop:=match x with|some (.list sz xs)=>K sz xs| _=>False
def Oq(x:Option Ob)(K:Nat->List (List IV)->Prop)(K2:Nat->List (List (List IV))->Option Nat->Prop)[Tg K][Tg K2]:Prop:=match x with|some (.list sz xs)=>K sz xs|some (.ZI sz xs hole)=>K2 sz xs hole| _=>False
def a3S(x:AV)(K:Nat->Nat->Nat->Nat->Prop)[Tg K]:Prop:=match x with| .sl a b c d=>K a b c d| _=>False
def Ek(x:Option Ob)(K:Sk->(List Value->Option (List IV))->Prop)[Tg K]:Prop:=match x with|some (.map sk g)=>K sk g| _=>False
def a5S(x:Option Ob)(K:Sk->(List Value->Option (List IV))->Int->List Value->Prop)[Tg K]:Prop:=match x with|some (.WT sk g n k)=>K sk g n k| _=>False
def E9(x:Option Ob)(K:Sk->(List Value->Option (List IV))->List (List Value)->Option (List Value)->Prop)[Tg K]:Prop:=match x with|some (.iter sk g l k)=>K sk g l k| _=>False
def E8(x:AV)(K:Nat->Prop)[Tg K]:Prop:=match x with| .mpr id=>K id| _=>False
section
variable{P:Program}{d id off:Nat}{s:St}{K:St->AV->Prop}{K1:St->Prop}{x y:Operand}
@[simp]theorem onB_b{b:Bool}{K:Bool->Prop}:rS (.iv (.v (.bool b))) K↔K b:=⟨id,id⟩
@[simp]theorem onG_b{b:Bool}{K:Bool->Prop}{U:Prop}:onG (.iv (.v (.bool b))) K U↔K b:=⟨id,id⟩
@[simp]theorem a8S{K:Bool->Prop}{U:Prop}:onG .un K U↔U:=⟨id,id⟩
@[simp]theorem onD_t{A B:Prop}:El (.iv (.v (.bool true))) A B↔A:=by simp[El]
@[simp]theorem onD_f{A B:Prop}:El (.iv (.v (.bool false))) A B↔B:=by simp[El]
@[simp low]theorem onD_b{b:Bool}{A B:Prop}:El (.iv (.v (.bool b))) A B↔(b=true->A)/\(b=false->B):=⟨fun h=>h,fun h=>h⟩
@[simp]theorem a9S{A B U:Prop}:Nx (.iv (.v (.bool true))) true A B U↔A:=by simp[Nx]
@[simp]theorem a0T{A B U:Prop}:Nx (.iv (.v (.bool true))) false A B U↔B:=by simp[Nx]
@[simp]theorem a1T{A B U:Prop}:Nx (.iv (.v (.bool false))) true A B U↔B:=by simp[Nx]
@[simp]theorem a2T{A B U:Prop}:Nx (.iv (.v (.bool false))) false A B U↔A:=by simp[Nx]
@[simp]theorem a3T{b:Bool}{A B U:Prop}:Nx .un b A B U↔U:=⟨fun h=>h,fun h=>h⟩
@[simp low]theorem onH_t{c:Bool}{A B U:Prop}:Nx (.iv (.v (.bool c))) true A B U↔(c=true->A)/\(c=false->B):=⟨fun h=>h,fun h=>h⟩
@[simp low]theorem onH_f{c:Bool}{A B U:Prop}:Nx (.iv (.v (.bool c))) false A B U↔(c=false->A)/\(c=true->B):=⟨fun h=>h,fun h=>h⟩
@[simp]theorem f8u{fr:List (Nat×AV)}{hp:Hp}{K:St->Prop}:Ot ⟨fr,hp⟩ K↔K ⟨fr,hp⟩:=⟨fun h=>h,fun h=>h⟩
@[simp]theorem onV_v{u:Value}{K:Value->Prop}:rR (.iv (.v u)) K↔K u:=⟨id,id⟩
@[simp]theorem onI_i{k:IntKind}{m:Int}{K:Int->Prop}:Jf (.iv (.v (.int k m))) K↔K m:=⟨id,id⟩
@[simp]theorem onT_t{t:ByteArray}{K:ByteArray->Prop}:pX (.iv (.v (.string t))) K↔K t:=⟨id,id⟩
@[simp]theorem a4T{α:Type}{a:α}{K:α->Prop}:Yx (some a) K↔K a:=⟨id,id⟩
@[simp]theorem onS_n{α:Type}{K:α->Prop}:Yx none K↔False:=⟨id,id⟩
@[simp]theorem a5T{cs:List AV}{K:List AV->Prop}:Fa (.agg cs) K↔K cs:=⟨id,id⟩
@[simp]theorem a6T{cs:List AV}{K:List AV->Prop}:a0S (.Zp cs) K↔K cs:=⟨id,id⟩
@[simp]theorem a7T{cs:List AV}{K:List AV->Prop}:Hw (some (.box cs)) K↔K cs:=⟨id,id⟩
@[simp]theorem a8T{sz:Nat}{xs:List (List IV)}{K:Nat->List (List IV)->Prop}:Hv (some (.list sz xs)) K↔K sz xs:=⟨id,id⟩
@[simp]theorem a9T{sk g}{K:Sk->(List Value->Option (List IV))->Prop}:Ek (some (.map sk g)) K↔K sk g:=⟨id,id⟩
@[simp]theorem a0U{sk g n k}{K:Sk->(List Value->Option (List IV))->Int->List Value->Prop}:a5S (some (.WT sk g n k)) K↔K sk g n k:=⟨id,id⟩
@[simp]theorem a1U{sk g l k}{K:Sk->(List Value->Option (List IV))->List (List Value)->Option (List Value)->Prop}:E9 (some (.iter sk g l k)) K↔K sk g l k:=⟨id,id⟩
@[simp]theorem a2U{K:Nat->Prop}:E8 (.mpr id) K↔K id:=⟨fun h=>h,fun h=>h⟩
theorem Ty{x:AV}{K:Bool->Prop}:rS x K↔∃b,x= .iv (.v (.bool b))/\K b:=by
 unfold rS;split<;>simp_all
theorem Tx{x:AV}{K:Value->Prop}:rR x K↔∃b,x= .iv (.v b)/\K b:=by
 unfold rR;split<;>simp_all
theorem Tw{x:AV}{K:ByteArray->Prop}:pX x K↔∃b,x= .iv (.v (.string b))/\K b:=by
 unfold pX;split<;>simp_all
theorem Tv{x:AV}{K:List AV->Prop}:Fa x K↔∃b,x= .agg b/\K b:=by
 unfold Fa;split<;>simp_all
theorem Tt{x:AV}{K:List AV->Prop}:a0S x K↔∃b,x= .Zp b/\K b:=by
 unfold a0S;split<;>simp_all
theorem TJ{x:AV}{K:Nat->Prop}:E8 x K↔∃b,x= .mpr b/\K b:=by
 unfold E8;split<;>simp_all
theorem Um{x:AV}{K:Int->Prop}:Jf x K↔∃k b,x= .iv (.v (.int k b))/\K b:=by
 unfold Jf;split
 ·exact⟨fun h=>⟨_,_,rfl,h⟩,fun⟨_,_,e,h⟩=>by cases e;exact h⟩
 ·rename_i hn;exact⟨fun h=>h.elim,fun⟨_,_,e,h⟩=>(hn _ _ e).elim⟩
theorem Wi{α:Type}{x:Option α}{K:α->Prop}:Yx x K↔∃b,x=some b/\K b:=by
 unfold Yx;split<;>simp_all
theorem T7{x:Option Ob}{K:List AV->Prop}:Hw x K↔∃b,x=some (.box b)/\K b:=by
 unfold Hw;split<;>simp_all
@[simp]theorem a2V{sz:Nat}{xs:List (List IV)}{K:Nat->List (List IV)->Prop}{K2:Nat->List (List (List IV))->Option Nat->Prop}:Oq (some (.list sz xs)) K K2↔K sz xs:=⟨id,id⟩
@[simp]theorem a3V{sz:Nat}{xs:List (List (List IV))}{hole:Option Nat}{K:Nat->List (List IV)->Prop}{K2:Nat->List (List (List IV))->Option Nat->Prop}:Oq (some (.ZI sz xs hole)) K K2↔K2 sz xs hole:=⟨id,id⟩
@[simp]theorem a4V{a b c d:Nat}{K:Nat->Nat->Nat->Nat->Prop}:a3S (.sl a b c d) K↔K a b c d:=⟨id,id⟩
theorem T6{x:Option Ob}{K:Nat->List (List IV)->Prop}:Hv x K↔∃sz b,x=some (.list sz b)/\K sz b:=by
 unfold Hv;split
 ·exact⟨fun h=>⟨_,_,rfl,h⟩,fun⟨_,_,e,h⟩=>by cases e;exact h⟩
 ·rename_i hn;exact⟨fun h=>h.elim,fun⟨_,_,e,h⟩=>(hn _ _ e).elim⟩
theorem TI{x:Option Ob}{K:Sk->(List Value->Option (List IV))->Prop}:Ek x K↔∃sk g,x=some (.map sk g)/\K sk g:=by
 unfold Ek;split
 ·exact⟨fun h=>⟨_,_,rfl,h⟩,fun⟨_,_,e,h⟩=>by cases e;exact h⟩
 ·rename_i hn;exact⟨fun h=>h.elim,fun⟨_,_,e,h⟩=>(hn _ _ e).elim⟩
theorem Ts{x:Option Ob}{K:Sk->(List Value->Option (List IV))->Int->List Value->Prop}:a5S x K↔∃sk g n k,x=some (.WT sk g n k)/\K sk g n k:=by
 unfold a5S;split
 ·exact⟨fun h=>⟨_,_,_,_,rfl,h⟩,fun⟨_,_,_,_,e,h⟩=>by cases e;exact h⟩
 ·rename_i hn;exact⟨fun h=>h.elim,fun⟨_,_,_,_,e,h⟩=>(hn _ _ _ _ e).elim⟩
theorem Tr{x:Option Ob}{K:Sk->(List Value->Option (List IV))->List (List Value)->Option (List Value)->Prop}:E9 x K↔∃sk g l k,x=some (.iter sk g l k)/\K sk g l k:=by
 unfold E9;split
 ·exact⟨fun h=>⟨_,_,_,_,rfl,h⟩,fun⟨_,_,_,_,e,h⟩=>by cases e;exact h⟩
 ·rename_i hn;exact⟨fun h=>h.elim,fun⟨_,_,_,_,e,h⟩=>(hn _ _ _ _ e).elim⟩
@[congr]theorem a9V{x x':AV}{K:Bool->Prop}(h:x=x'):rS x K=rS x' K:=by rw[h]
@[congr]theorem a0W{x x':AV}{K:Value->Prop}(h:x=x'):rR x K=rR x' K:=by rw[h]
@[congr]theorem a1W{x x':AV}{K:Int->Prop}(h:x=x'):Jf x K=Jf x' K:=by rw[h]
@[congr]theorem a2W{x x':AV}{K:ByteArray->Prop}(h:x=x'):pX x K=pX x' K:=by rw[h]
@[congr]theorem a3W{x x':AV}{K:List AV->Prop}(h:x=x'):Fa x K=Fa x' K:=by rw[h]
@[congr]theorem a4W{x x':AV}{K:List AV->Prop}(h:x=x'):a0S x K=a0S x' K:=by rw[h]
@[congr]theorem a5W{x x':Option Ob}{K:List AV->Prop}(h:x=x'):Hw x K=Hw x' K:=by rw[h]
@[congr]theorem a6W{x x':Option Ob}{K:Nat->List (List IV)->Prop}(h:x=x'):Hv x K=Hv x' K:=by rw[h]
@[congr]theorem a7W{x x':Option Ob}{K:Nat->List (List IV)->Prop}{K2:Nat->List (List (List IV))->Option Nat->Prop}(h:x=x'):Oq x K K2=Oq x' K K2:=by rw[h]
@[congr]theorem a8W{x x':AV}{K:Nat->Nat->Nat->Nat->Prop}(h:x=x'):a3S x K=a3S x' K:=by rw[h]
@[congr]theorem a9W{x x':Option Ob}{K:Sk->(List Value->Option (List IV))->Prop}(h:x=x'):Ek x K=Ek x' K:=by rw[h]
@[congr]theorem a0X{x x':Option Ob}{K:Sk->(List Value->Option (List IV))->Int->List Value->Prop}(h:x=x'):a5S x K=a5S x' K:=by rw[h]
@[congr]theorem a1X{x x':Option Ob}{K:Sk->(List Value->Option (List IV))->List (List Value)->Option (List Value)->Prop}(h:x=x'):E9 x K=E9 x' K:=by rw[h]
@[congr]theorem a2X{x x':AV}{K:Nat->Prop}(h:x=x'):E8 x K=E8 x' K:=by rw[h]
@[congr]theorem a3X{x x':AV}{A B:Prop}(h:x=x'):El x A B=El x' A B:=by rw[h]
@[congr]theorem a4X{x x':AV}{b:Bool}{A B U:Prop}(h:x=x'):Nx x b A B U=Nx x' b A B U:=by rw[h]
@[congr]theorem a5X{s s':St}{K:St->Prop}(h:s=s'):Ot s K=Ot s' K:=by rw[h]
@[congr]theorem a6X{x x':AV}{K:Bool->Prop}{U:Prop}(h:x=x'):onG x K U=onG x' K U:=by rw[h]
@[congr]theorem a7X{α:Type}{x x':Option α}{K:α->Prop}(h:x=x'):Yx x K=Yx x' K:=by rw[h]
@[congr]theorem a8X{P:Program}{l l':List Yv}{s s':St}{K:St->Prop}(hl:l=l')(h:s=s'):Uy P l s K=Uy P l' s' K:=by rw[h,hl]
@[congr]theorem a9X{P:Program}{l l':VT}{s s':St}{K:St->Prop}(hl:l=l')(h:s=s'):Uc P l s K=Uc P l' s' K:=by rw[h,hl]
@[congr]theorem a0Y{P:Program}{c c':Z9}{s s':St}{O:YC}(hc:c=c')(h:s=s'):X5 P c s O=X5 P c' s' O:=by rw[h,hc]
@[congr]theorem a1Y{P:Program}{d:Nat}{f:FuncId}{pre post:List Z3}{ops:List Operand}{y:Option Operand}{s s':St}{K:St->AV->Prop}(h:s=s'):
 NC P d f pre ops post y s K=NC P d f pre ops post y s' K:=by rw[h]
@[congr]theorem a2Y{P:Program}{g:Operand}{ps:List Nat}{x y:Z9}{s s':St}{O:YC}(h:s=s'):Hy P g ps x y s O=Hy P g ps x y s' O:=by rw[h]
@[congr]theorem a3Y{P:Program}{l:Nat}{ops:List Operand}{s s':St}{K:St->AV->Prop}(h:s=s'):a7R P l ops s K=a7R P l ops s' K:=by rw[h]
@[congr]theorem a4Y{P:Program}{c:Z9}{s s':St}{O:YC}(h:s=s'):Fh P c s O=Fh P c s' O:=by rw[h]
@[simp]theorem a5Y{s:St}:Uy P [] s K1↔K1 s:=⟨fun h=>h,fun h=>h⟩
@[simp]theorem a6Y{o:Yv}{r:List Yv}:Uy P (o::r) s K1↔V5 P o s fun s'=>Uy P r s' K1:=⟨fun h=>h,fun h=>h⟩
@[simp]theorem a7Y:Uc P .done s K1↔K1 s:=⟨fun h=>h,fun h=>h⟩
@[simp]theorem a8Y{o:Yv}{t:VT}:Uc P (.op o t) s K1↔V5 P o s fun s'=>Uc P t s' K1:=⟨fun h=>h,fun h=>h⟩
@[simp]theorem a9Y{a b:VT}:Uc P (.alt a b) s K1↔Uc P a s K1/\Uc P b s K1:=⟨fun h=>h,fun h=>h⟩
@[simp]theorem a0Z{d:Option Nat}{r:Wu}:V5 P ⟨d,none,r⟩ s K1↔Ot s fun s=>ZP P (d.getD 999) s (fun s' x=>K1 (s'.put d x)) r:=⟨fun h=>h,fun h=>h⟩
@[simp]theorem a1Z{d:Option Nat}{t:Nat}{b:Bool}{r:Wu}:V5 P ⟨d,some (t,b),r⟩ s K1↔
 Ot s fun s=>Nx (s.get t) b (ZP P (d.getD 999) (s.lit t b) (fun s' x=>K1 (s'.put d x)) r) (K1 ((s.lit t !b).put d .un)) (K1 (s.put d .un)):=by
 simp only[V5,Ot,Nx]<;>split<;>simp_all
variable{O:YC}
@[simp]theorem a2Z:X5 P .skip s O↔O.n s:=⟨fun h=>h,fun h=>h⟩
@[simp]theorem a3Z{l:List Yv}:X5 P (.E7 l) s O↔Uy P l s O.n:=⟨fun h=>h,fun h=>h⟩
@[simp]theorem a4Z{t:VT}:X5 P (.any t) s O↔Uc P t s O.n:=⟨fun h=>h,fun h=>h⟩
@[simp]theorem a5Z{a b:Z9}:X5 P (.seq a b) s O↔X5 P a s ⟨fun s'=>X5 P b s' O,O.x,O.r,O.g⟩:=⟨fun h=>h,fun h=>h⟩
@[simp]theorem a6Z{t e:Z9}:X5 P (.cond x t e) s O↔Ot s fun s=>El (s.ev x) (X5 P t s O) (X5 P e s O):=by
 simp only[X5,Ot,El]<;>split<;>simp_all
@[simp]theorem a7Z{c:Z9}:X5 P (.block id c) s O↔X5 P c s ⟨O.n,fun j s'=>if j=id then O.n s' else O.x j s',O.r,O.g⟩:=⟨fun h=>h,fun h=>h⟩
@[simp]theorem f9u{g:Operand}{ps:List Nat}{x y:Z9}:X5 P (.QY g ps x y) s O↔Hy P g ps x y s O:=⟨fun h=>h,fun h=>h⟩
@[simp]theorem a8Z{c:Z9}:X5 P (.loop c) s O↔Fh P c s O:=⟨fun h=>h,fun h=>h⟩
@[simp]theorem a9Z:X5 P (.exit id) s O↔O.x id s:=⟨fun h=>h,fun h=>h⟩
@[simp]theorem b0a:X5 P .ret s O↔O.r s:=⟨fun h=>h,fun h=>h⟩
@[simp]theorem b1a{l:Nat}:X5 P (.goto l) s O↔O.g l s:=⟨fun h=>h,fun h=>h⟩
@[simp]theorem b2a{c:Z9}:X5 P (.scope c) s O↔X5 P c s ⟨O.n,O.x,O.r,fun _ _=>False⟩:=⟨fun h=>h,fun h=>h⟩
@[simp]theorem b3a{c r:Z9}{l:Nat}:X5 P (.WR c l r) s O↔X5 P c s ⟨O.n,O.x,O.r,fun l' s'=>l'=l/\X5 P r s' ⟨O.n,O.x,O.r,fun _ _=>False⟩⟩:=⟨fun h=>h,fun h=>h⟩
@[simp]theorem b4a:ZP P d s K (.Td x)↔K s (s.ev x):=⟨fun h=>h,fun h=>h⟩
@[simp]theorem b5a{sz:Nat}:ZP P d s K (.Ix sz)↔K ((s.drop d).add d (.list sz [])) (.sl d sz 0 0):=⟨fun h=>h,fun h=>h⟩
@[simp]theorem b6a{c:Operand}:ZP P d s K (.pick c x y)↔rS (s.ev c) fun t=>K s (if t then s.ev x else s.ev y):=by
 first
 |exact⟨fun h=>h,fun h=>h⟩
 |(
  simp only[ZP,Ty,Tx,Tw,Tv,Tt,TJ,Um,Wi,T7,T6,TI,Ts,Tr];repeat' split
  all_goals first|(simp_all;done)|grind)
@[simp]theorem b7a{z:List AV}:ZP P d s K (.alloc z)↔K ((s.drop d).add d (.box z)) (.ptr d 0):=⟨fun h=>h,fun h=>h⟩
@[simp]theorem b8a:ZP P d s K (.box x)↔Yx (((s.drop d).ev x).cellsOf) fun cs=>K ((s.drop d).add d (.box cs)) (.ptr d 0):=by
 first
 |exact⟨fun h=>h,fun h=>h⟩
 |(
  simp only[ZP,Ty,Tx,Tw,Tv,Tt,TJ,Um,Wi,T7,T6,TI,Ts,Tr];repeat' split
  all_goals first|(simp_all;done)|grind)
@[simp]theorem b9a{z:List AV}{parts:List (Nat×Nat×Operand)}:ZP P d s K (.build z parts)↔Yx (Fo s z parts) fun cs=>K s (.agg cs):=by
 first
 |exact⟨fun h=>h,fun h=>h⟩
 |(
  simp only[ZP,Ty,Tx,Tw,Tv,Tt,TJ,Um,Wi,T7,T6,TI,Ts,Tr];repeat' split
  all_goals first|(simp_all;done)|grind)
@[simp]theorem b0b{sz len:Nat}{parts:List (Nat×Operand)}:ZP P d s K (.lit sz len parts)↔
 Yx (RQ ((s.Y9 (parts.map fun p=>s.ev p.2)).drop d) sz parts) fun xs=>K (((s.Y9 (parts.map fun p=>s.ev p.2)).drop d).add d (.list sz xs)) (.sl d sz 0 len):=by
 first
 |exact⟨fun h=>h,fun h=>h⟩
 |(
  simp only[ZP,Ty,Tx,Tw,Tv,Tt,TJ,Um,Wi,T7,T6,TI,Ts,Tr];repeat' split
  all_goals first|(simp_all;done)|grind)
def ldN(s:St)(d:Nat)(x:Operand)(K:St->AV->Prop)[Tg K]:AV->Prop
 | .ptr id off=>Hw (look s.hp id) fun cs=>Yx cs[off]? (K s)
 | .ep id _ i off=>Oq (look s.hp id) (fun _ xs=>Yx (at2 xs i off) fun y=>K s (.iv y)) (fun YK xs hole=>hole=none/\off=0/\id≠d/\(s.drop d).ev x= .ep id 1 i 0/\look (s.drop d).hp id=some (.ZI YK xs none)/\Yx xs[i]? fun ys=>K (((s.drop d).add id (.ZI YK xs (some i))).add d (.YU id YK ys)) (.sl d YK 0 ys.length))
 | .iv (.pt cs)=>Yx cs[0]? fun y=>K s (.iv y)
 | _=>False
@[simp]theorem b1b{K:St->AV->Prop}:ldN s d x K (.ptr id off)↔Hw (look s.hp id) fun cs=>Yx cs[off]? (K s):=⟨fun h=>h,fun h=>h⟩
@[simp]theorem b2b{K:St->AV->Prop}{z i:Nat}:ldN s d x K (.ep id z i off)↔Oq (look s.hp id) (fun _ xs=>Yx (at2 xs i off) fun y=>K s (.iv y)) (fun YK xs hole=>hole=none/\off=0/\id≠d/\(s.drop d).ev x= .ep id 1 i 0/\look (s.drop d).hp id=some (.ZI YK xs none)/\Yx xs[i]? fun ys=>K (((s.drop d).add id (.ZI YK xs (some i))).add d (.YU id YK ys)) (.sl d YK 0 ys.length)):=⟨fun h=>h,fun h=>h⟩
@[simp]theorem b3b{K:St->AV->Prop}{cs:List IV}:ldN s d x K (.iv (.pt cs))↔Yx cs[0]? fun y=>K s (.iv y):=⟨fun h=>h,fun h=>h⟩
@[simp]theorem b4b:ZP P d s K (.ld x none)↔ldN s d x K (s.ev x):=by
 simp only[ZP];generalize s.ev x=ax
 cases ax with
 |ptr id off=>
  simp only[b1b,T7,Wi]
  repeat' split
  all_goals (simp_all;done)
 |ep id sz i off=>
  simp only[b2b]
  cases hl:look s.hp id with
  |none=>exact⟨fun h=>h,fun h=>h⟩
  |some o=>
   cases o with
   |list z xs=>simp only[a2V,Wi];split<;>simp_all
   |ZI z xs hole=>simp only[a3V,Wi];split<;>simp_all
   | _=>exact⟨fun h=>h,fun h=>h⟩
 |iv y=>
  cases y with
  |pt cs=>
   simp only[b3b,Wi];repeat' split
   all_goals (simp_all;done)
  | _=>exact⟨fun h=>h,fun h=>h⟩
 | _=>exact⟨fun h=>h,fun h=>h⟩
def ldS(H:Hp)(n:Nat)(x:AV)(K:AV->Prop)[Tg K]:Prop:=match x with
 | .ptr id off=>Hw (look H id) fun cs=>off+n<=cs.length/\K (.agg ((cs.drop off).take n))
 | .ep id _ i off=>Hv (look H id) fun _ xs=>Yx xs[i]? fun r=>off+n<=r.length/\K (.agg (((r.drop off).take n).map .iv))
 | .iv (.pt cs)=>n<=cs.length/\K (.agg ((cs.take n).map .iv))
 | _=>False
@[simp]theorem b5b{H:Hp}{n:Nat}{K:AV->Prop}:ldS H n (.ptr id off) K↔Hw (look H id) fun cs=>off+n<=cs.length/\K (.agg ((cs.drop off).take n)):=⟨fun h=>h,fun h=>h⟩
@[simp]theorem b6b{H:Hp}{n:Nat}{K:AV->Prop}{z i:Nat}:ldS H n (.ep id z i off) K↔Hv (look H id) fun _ xs=>Yx xs[i]? fun r=>off+n<=r.length/\K (.agg (((r.drop off).take n).map .iv)):=⟨fun h=>h,fun h=>h⟩
@[simp]theorem b7b{H:Hp}{n:Nat}{K:AV->Prop}{cs:List IV}:ldS H n (.iv (.pt cs)) K↔n<=cs.length/\K (.agg ((cs.take n).map .iv)):=⟨fun h=>h,fun h=>h⟩
@[simp]theorem b8b{n:Nat}:ZP P d s K (.ld x (some n))↔ldS s.hp n (s.ev x) (K s):=by
 first
 |exact⟨fun h=>h,fun h=>h⟩
 |(
  simp only[ZP,ldS,Ty,Tx,Tw,Tv,Tt,TJ,Um,Wi,T7,T6,TI,Ts,Tr];repeat' split
  all_goals first|(simp_all;done)|grind)
def stC(s:St)(x:Operand)(y:Operand)(n:Nat)(K:St->Prop)[Tg K]:AV->Prop
 | .ptr id off=>Hw (look s.hp id) fun cs=>Yx (s.ev y).cellsOf fun cy=>cy.length=n/\off+n<=cs.length/\cy.all AV.one=true/\K (s.add id (.box (Zc cs off cy)))
 | .ep id _ i off=>Oq (look (s.Y9 [s.ev y]).hp id) (fun sz xs=>Yx (((s.Y9 [s.ev y]).ev y).cellsOf.bind fun cs=>Zm AV.iv? cs) fun cy=>Yx xs[i]? fun r=>
  (s.Y9 [s.ev y]).ev x= .ep id sz i off/\cy.length=n/\off+n<=r.length/\K ((s.Y9 [s.ev y]).add id (.list sz (xs.set i (Zc r off cy))))) (fun YK xs hole=>a3S (s.ev y) fun d' ZB lo len=>Yx (look s.hp d') fun o=>Yx o.T5 fun e=>lo=0/\look s.hp id=some (.ZI YK xs hole)/\(n=1/\off=0)/\ZB=YK/\d'<1000/\d'≠id/\len=e.2.length/\(o.org?=none\/o.org?=some id)/\hole=some i/\K ((s.kill d').add id (.ZI YK (xs.set i e.2) none)))
 | _=>False
theorem Ej{α β:Type}(f:α->Option β):∀l:List α,l.mapM f=Zm f l
 | []=>rfl
 |x::r=>by
  rw[a3N];simp only[Zm, <-Ej f r]
  cases f x with
  |none=>rfl
  |some y=>cases r.mapM f<;>rfl
@[simp]theorem b0c{n:Nat}{K:St->Prop}:stC s x y n K (.ptr id off)↔Hw (look s.hp id) fun cs=>Yx (s.ev y).cellsOf fun cy=>cy.length=n/\off+n<=cs.length/\cy.all AV.one=true/\K (s.add id (.box (Zc cs off cy))):=⟨fun h=>h,fun h=>h⟩
@[simp]theorem b1c{n z i:Nat}{K:St->Prop}:stC s x y n K (.ep id z i off)↔Oq (look (s.Y9 [s.ev y]).hp id) (fun sz xs=>Yx (((s.Y9 [s.ev y]).ev y).cellsOf.bind fun cs=>Zm AV.iv? cs) fun cy=>Yx xs[i]? fun r=>
 (s.Y9 [s.ev y]).ev x= .ep id sz i off/\cy.length=n/\off+n<=r.length/\K ((s.Y9 [s.ev y]).add id (.list sz (xs.set i (Zc r off cy))))) (fun YK xs hole=>a3S (s.ev y) fun d' ZB lo len=>Yx (look s.hp d') fun o=>Yx o.T5 fun e=>lo=0/\look s.hp id=some (.ZI YK xs hole)/\(n=1/\off=0)/\ZB=YK/\d'<1000/\d'≠id/\len=e.2.length/\(o.org?=none\/o.org?=some id)/\hole=some i/\K ((s.kill d').add id (.ZI YK (xs.set i e.2) none))):=⟨fun h=>h,fun h=>h⟩
@[simp]theorem b2c{n:Nat}:ZP P d s K (.st x y n)↔stC s x y n (fun s'=>K s' .un) (s.ev x):=by
 simp only[ZP];generalize hx:s.ev x=ax
 cases ax with
 |ptr id off=>
  simp only[b0c,T7,Wi]
  repeat' split
  all_goals first|(simp_all;done)|grind
 |ep id sz i off=>
  simp only[b1c,Ej]
  cases hl:look (s.Y9 [s.ev y]).hp id with
  |none=>exact⟨fun h=>h,fun h=>h⟩
  |some o=>
   cases o with
   |list z xs=>
    simp only[a2V,Wi];repeat' split
    all_goals first|(simp_all;done)|grind
   |ZI z xs hole=>
    simp only[a3V];clear hl hx;generalize s.ev y=ay
    cases ay with
    |sl d' ZB lo len=>
     simp only[a4V,Wi]
     cases lo with
     |zero=>
      cases h1:look s.hp d' with
      |none=>simp[h1]
      |some o=>
       cases h2:o.T5 with
       |none=>simp[h1,h2]
       |some e=>
        obtain⟨e1,e2⟩:=e;simp only[h1,h2,a5y,exists_eq_left',true_and]
     |succ lo=>exact⟨fun h=>h.elim,fun⟨_,_,_,_,h,_⟩=>by cases h⟩
    | _=>exact⟨fun h=>h,fun h=>h⟩
   | _=>exact⟨fun h=>h,fun h=>h⟩
 | _=>exact⟨fun h=>h,fun h=>h⟩
def Ei(x:AV)(K:AV->Prop)[Tg K]:Prop:=match x with
 | .ptr id off=>K (.ptr id off)
 | .ep id sz i off=>K (.ep id sz i off)
 | .iv (.pt cs)=>K (.iv (.pt cs))
 | _=>False
@[simp]theorem b3c{K:AV->Prop}:Ei (.ptr id off) K↔K (.ptr id off):=⟨fun h=>h,fun h=>h⟩
@[simp]theorem b4c{K:AV->Prop}{sz i:Nat}:Ei (.ep id sz i off) K↔K (.ep id sz i off):=⟨fun h=>h,fun h=>h⟩
@[simp]theorem b5c{K:AV->Prop}{cs:List IV}:Ei (.iv (.pt cs)) K↔K (.iv (.pt cs)):=⟨fun h=>h,fun h=>h⟩
@[simp]theorem b6c:ZP P d s K (.sb x)↔Ei (s.ev x) (K s):=⟨fun h=>h,fun h=>h⟩
@[simp]theorem b7c{op:BinOp}:ZP P d s K (.bin op x y)↔rR (s.ev x) fun u=>rR (s.ev y) fun v=>Yx (YY op u v) fun r=>K s (.iv (.v r)):=by
 first
 |exact⟨fun h=>h,fun h=>h⟩
 |(
  simp only[ZP,Ty,Tx,Tw,Tv,Tt,TJ,Um,Wi,T7,T6,TI,Ts,Tr];repeat' split
  all_goals first|(simp_all;done)|grind)
@[simp]theorem b8c{neg:Bool}:ZP P d s K (.beq neg x y)↔rS (s.ev x) fun u=>rS (s.ev y) fun v=>K s (.iv (.v (.bool (if neg then u != v else u==v)))):=by
 first
 |exact⟨fun h=>h,fun h=>h⟩
 |(
  simp only[ZP,Ty,Tx,Tw,Tv,Tt,TJ,Um,Wi,T7,T6,TI,Ts,Tr];repeat' split
  all_goals first|(simp_all;done)|grind)
def Nw:AV->AV->Option Bool
 | .iv (.v (.pointer none)), .iv (.v (.pointer none))=>some true
 | .iv (.v (.pointer none)), .ptr .. =>some false
 | .iv (.v (.pointer none)), .iv (.pt _)=>some false
 | .ptr .., .iv (.v (.pointer none))=>some false
 | .iv (.pt _), .iv (.v (.pointer none))=>some false
 | _,_=>none
@[simp]theorem b9c:Nw (.iv (.v (.pointer none))) (.iv (.v (.pointer none)))=some true:=rfl
@[simp]theorem b0d:Nw (.iv (.v (.pointer none))) (.ptr id off)=some false:=rfl
@[simp]theorem b1d{cs:List IV}:Nw (.iv (.v (.pointer none))) (.iv (.pt cs))=some false:=rfl
@[simp]theorem b2d:Nw (.ptr id off) (.iv (.v (.pointer none)))=some false:=rfl
@[simp]theorem b3d{cs:List IV}:Nw (.iv (.pt cs)) (.iv (.v (.pointer none)))=some false:=rfl
@[simp]theorem b4d{neg:Bool}:ZP P d s K (.peq neg x y)↔Yx (Nw (s.ev x) (s.ev y)) fun b=>K s (.iv (.v (.bool (b != neg)))):=by
 first
 |exact⟨fun h=>h,fun h=>h⟩
 |(
  simp only[ZP,Nw,Ty,Tx,Tw,Tv,Tt,TJ,Um,Wi,T7,T6,TI,Ts,Tr];repeat' split
  all_goals first|(simp_all;done)|grind)
@[simp]theorem b5d{neg:Bool}{ks:List Kd}:ZP P d s K (.eqs neg ks x y)↔Fa (s.ev x) fun cs=>Fa (s.ev y) fun ds=>Yx (Ug ks cs ds) fun b=>K s (.iv (.v (.bool (if neg then !b else b)))):=by
 first
 |exact⟨fun h=>h,fun h=>h⟩
 |(
  simp only[ZP,Ty,Tx,Tw,Tv,Tt,TJ,Um,Wi,T7,T6,TI,Ts,Tr];repeat' split
  all_goals first|(simp_all;done)|grind)
@[simp]theorem b6d{op:UnOp}:ZP P d s K (.un op x)↔rR (s.ev x) fun v=>Yx (unV op v) fun r=>K s (.iv (.v r)):=by
 first
 |exact⟨fun h=>h,fun h=>h⟩
 |(
  simp only[ZP,Ty,Tx,Tw,Tv,Tt,TJ,Um,Wi,T7,T6,TI,Ts,Tr];repeat' split
  all_goals first|(simp_all;done)|grind)
@[simp]theorem b7d{k:IntKind}:ZP P d s K (.cvt k x)↔Jf (s.ev x) fun m=>K s (.iv (.v (.int k (k.wrap m)))):=by
 first
 |exact⟨fun h=>h,fun h=>h⟩
 |(
  simp only[ZP,Ty,Tx,Tw,Tv,Tt,TJ,Um,Wi,T7,T6,TI,Ts,Tr];repeat' split
  all_goals first|(simp_all;done)|grind)
def Hu(s:St)(sz:Nat)(lo hi:Option Operand)(K:AV->Prop)[Tg K]:AV->Prop
 | .iv (.Z6 ZB xs)=>Yx (s.bound 0 lo) fun l=>Yx (s.bound xs.length hi) fun h=>ZB=sz/\0<=l/\l<=h/\h<=xs.length/\K (.iv (.Z6 sz ((xs.drop l.toNat).take (h-l).toNat)))
 | .sl id ZB o m=>Yx (s.bound 0 lo) fun l=>Yx (s.bound m hi) fun h=>ZB=sz/\0<=l/\l<=h/\h<=m/\K (.sl id sz (o+l.toNat) (h-l).toNat)
 | .nil ZB=>Yx (s.bound 0 lo) fun l=>Yx (s.bound 0 hi) fun h=>l=0/\h=0/\K (.nil ZB)
 | _=>False
section
variable{sz ZB o m:Nat}{lo hi:Option Operand}{K2:AV->Prop}{xs:List (List IV)}
@[simp]theorem b8d:Hu s sz lo hi K2 (.iv (.Z6 ZB xs))↔Yx (s.bound 0 lo) fun l=>Yx (s.bound xs.length hi) fun h=>ZB=sz/\0<=l/\l<=h/\h<=xs.length/\K2 (.iv (.Z6 sz ((xs.drop l.toNat).take (h-l).toNat))):=⟨fun h=>h,fun h=>h⟩
@[simp]theorem b9d:Hu s sz lo hi K2 (.sl id ZB o m)↔Yx (s.bound 0 lo) fun l=>Yx (s.bound m hi) fun h=>ZB=sz/\0<=l/\l<=h/\h<=m/\K2 (.sl id sz (o+l.toNat) (h-l).toNat):=⟨fun h=>h,fun h=>h⟩
@[simp]theorem b0e:Hu s sz lo hi K2 (.nil ZB)↔Yx (s.bound 0 lo) fun l=>Yx (s.bound 0 hi) fun h=>l=0/\h=0/\K2 (.nil ZB):=⟨fun h=>h,fun h=>h⟩
@[simp]theorem b1e:ZP P d s K (.cut sz x lo hi)↔Hu s sz lo hi (K s) (s.ev x):=by
 first
 |exact⟨fun h=>h,fun h=>h⟩
 |(
  simp only[ZP,Hu,Ty,Tx,Tw,Tv,Tt,TJ,Um,Wi,T7,T6,TI,Ts,Tr];repeat' split
  all_goals first|(simp_all;done)|grind)
end
def faK(off:Nat)(x:AV)(K:AV->Prop)[Tg K]:Prop:=match x with
 | .ptr id o=>K (.ptr id (o+off))
 | .ep id sz i o=>K (.ep id sz i (o+off))
 | .iv (.pt cs)=>K (.iv (.pt (cs.drop off)))
 | _=>False
section
variable{K2:AV->Prop}{sz i o n:Nat}
@[simp]theorem b2e:faK off (.ptr id o) K2↔K2 (.ptr id (o+off)):=⟨fun h=>h,fun h=>h⟩
@[simp]theorem b3e:faK off (.ep id sz i o) K2↔K2 (.ep id sz i (o+off)):=⟨fun h=>h,fun h=>h⟩
@[simp]theorem b4e{cs:List IV}:faK off (.iv (.pt cs)) K2↔K2 (.iv (.pt (cs.drop off))):=⟨fun h=>h,fun h=>h⟩
@[simp]theorem b5e:ZP P d s K (.fa off x)↔faK off (s.ev x) (K s):=⟨fun h=>h,fun h=>h⟩
@[simp]theorem b6e:ZP P d s K (.WJ off none x)↔Fa (s.ev x) fun cs=>Yx cs[off]? (K s):=by
 simp only[ZP,Ty,Tx,Tw,Tv,Tt,TJ,Um,Wi,T7,T6,TI,Ts,Tr];repeat' split
 all_goals first|(simp_all;done)|grind
@[simp]theorem b7e:ZP P d s K (.WJ off (some n) x)↔Fa (s.ev x) fun cs=>off+n<=cs.length/\K s (.agg ((cs.drop off).take n)):=⟨fun h=>h,fun h=>h⟩
end
def iaK(sz:Nat)(m:Int)(K:AV->Prop)[Tg K]:AV->Prop
 | .iv (.Z6 ZB xs)=>ZB=sz/\0<=m/\Yx xs[m.toNat]? fun r=>K (.iv (.pt r))
 | .sl id ZB o k=>ZB=sz/\0<=m/\m<k/\K (.ep id sz (o+m.toNat) 0)
 | _=>False
section
variable{K2:AV->Prop}{sz ZB i o n k:Nat}{m:Int}{xs:List (List IV)}
@[simp]theorem b8e:iaK sz m K2 (.iv (.Z6 ZB xs))↔ZB=sz/\0<=m/\Yx xs[m.toNat]? fun r=>K2 (.iv (.pt r)):=⟨fun h=>h,fun h=>h⟩
@[simp]theorem b9e:iaK sz m K2 (.sl id ZB o k)↔ZB=sz/\0<=m/\m<k/\K2 (.ep id sz (o+m.toNat) 0):=⟨fun h=>h,fun h=>h⟩
@[simp]theorem b0f:ZP P d s K (.ia sz x y)↔Jf (s.ev y) fun m=>iaK sz m (K s) (s.ev x):=by
 rw[Um];simp only[ZP];constructor
 ·intro h;split at h
  ·rename_i ZB xs k m e1 e2;refine⟨k,m,e2,?_⟩;rw[e1,b8e];refine⟨h.1,h.2.1,?_⟩
   cases hg:xs[m.toNat]? with
   |none=>rw[hg]at h;exact h.2.2.elim
   |some r=>rw[hg]at h;exact h.2.2
  ·rename_i id ZB o q k m e1 e2;refine⟨k,m,e2,?_⟩;rw[e1,b9e];exact h
  ·exact h.elim
 ·rintro⟨k,m,e2,h⟩;rw[e2]
  cases hx:s.ev x with
  |iv x'=>
   rw[hx]at h
   cases x' with
   |Z6 ZB xs=>
    rw[b8e]at h;refine⟨h.1,h.2.1,?_⟩
    cases hg:xs[m.toNat]? with
    |none=>rw[hg]at h;exact h.2.2.elim
    |some r=>rw[hg]at h;exact h.2.2
   | _=>exact h.elim
  |sl id ZB o q=>rw[hx,b9e]at h;exact h
  | _=>rw[hx]at h;exact h.elim
@[simp]theorem f6M{q:Nat}:ZP P d s K (.ix q x y)↔Fa (s.ev x) fun cs=>Jf (s.ev y) fun m=>0<=m/\m<q/\Yx cs[m.toNat]? (K s):=by
 constructor
 ·intro h;simp only[ZP]at h;split at h
  ·rename_i cs k m h1 h2;rw[h1,h2];obtain⟨g1,g2,g3⟩:=h;refine⟨g1,g2,?_⟩
   cases hc:cs[m.toNat]? with
   |none=>rw[hc]at g3;exact g3.elim
   |some y=>rw[hc]at g3;exact g3
  ·exact h.elim
 ·intro h;simp only[ZP]
  cases h1:s.ev x with
  |agg cs=>
   rw[h1]at h
   cases h2:s.ev y with
   |iv c=>
    rw[h2]at h
    cases c with
    |v z=>cases z with
     |int k m=>
      obtain⟨g1,g2,g3⟩:=h;refine⟨g1,g2,?_⟩
      cases hc:cs[m.toNat]? with
      |none=>rw[hc]at g3;exact g3.elim
      |some y=>rw[hc]at g3;exact g3
     | _=>exact h.elim
    | _=>exact h.elim
   | _=>rw[h2]at h;exact h.elim
  | _=>rw[h1]at h;exact h.elim
@[simp]theorem b1f:ZP P d s K (.is x y)↔pX (s.ev x) fun t=>Jf (s.ev y) fun m=>0<=m/\Yx t[m.toNat]? fun b=>K s (.iv (.v (.int .u8 b.toNat))):=by
 first
 |exact⟨fun h=>h,fun h=>h⟩
 |(
  simp only[ZP,Ty,Tx,Tw,Tv,Tt,TJ,Um,Wi,T7,T6,TI,Ts,Tr];repeat' split
  all_goals first|(simp_all;done)|grind)
@[simp]theorem b2f:ZP P d s K (.ext i x)↔a0S (s.ev x) fun vs=>Yx vs[i]? (K s):=by
 simp only[ZP,Ty,Tx,Tw,Tv,Tt,TJ,Um,Wi,T7,T6,TI,Ts,Tr];repeat' split
 all_goals first|(simp_all;done)|grind
end
def Ht(x:AV)(K:Nat->Prop)[Tg K]:Prop:=match x with
 | .iv (.Z6 _ xs)=>K xs.length
 | .sl _ _ _ m=>K m
 | .nil _=>K 0
 | _=>False
section
variable{K2:Nat->Prop}{sz o n:Nat}{xs:List (List IV)}
@[simp]theorem b3f:Ht (.iv (.Z6 sz xs)) K2↔K2 xs.length:=⟨fun h=>h,fun h=>h⟩
@[simp]theorem b4f:Ht (.sl id sz o n) K2↔K2 n:=⟨fun h=>h,fun h=>h⟩
@[simp]theorem b5f:Ht (.nil sz) K2↔K2 0:=⟨fun h=>h,fun h=>h⟩
@[simp]theorem b6f:ZP P d s K (.len x)↔Ht (s.ev x) fun n=>K s (.iv (.v (.int .i64 n))):=by
 first
 |exact⟨fun h=>h,fun h=>h⟩
 |(
  simp only[ZP,Ht,Ty,Tx,Tw,Tv,Tt,TJ,Um,Wi,T7,T6,TI,Ts,Tr];repeat' split
  all_goals first|(simp_all;done)|grind)
@[simp]theorem b7f:ZP P d s K (.lens x)↔pX (s.ev x) fun t=>K s (.iv (.v (.int .i64 t.size))):=⟨fun h=>h,fun h=>h⟩
end
def Eh(s:St)(d sz bytes:Nat)(ys:Option (Nat×List (List IV)))(K:St->AV->Prop)[Tg K]:AV->Prop
 | .sl id ZB lo m=>Yx ys fun(YK,ys)=>Yx (look s.hp id) fun o=>Yx o.T5 fun(_,xs)=>ZB=sz/\(YK=sz\/ys=[])/\id<1000/\lo+m=xs.length/\(m+ys.length)*bytes<=2^47/\m+ys.length<2^62∧
  K ((s.lone id).add id (o.Xu sz (xs.drop lo++ys))) (.sl id sz 0 (m+ys.length))
 | .nil _=>Yx ys fun(YK,ys)=>(YK=sz\/ys=[])/\ys.length*bytes<=2^47/\ys.length<2^62/\K ((s.drop d).add d (.list sz ys)) (.sl d sz 0 ys.length)
 | _=>False
section
variable{sz ZB YK bytes lo m:Nat}{ys:List (List IV)}
@[simp]theorem b8f:Eh s d sz bytes (some (YK,ys)) K (.sl id ZB lo m)↔Yx (look s.hp id) fun o=>Yx o.T5 fun xs=>ZB=sz/\(YK=sz\/ys=[])/\id<1000/\lo+m=xs.2.length/\(m+ys.length)*bytes<=2^47/\m+ys.length<2^62∧
 K ((s.lone id).add id (o.Xu sz (xs.2.drop lo++ys))) (.sl id sz 0 (m+ys.length)):=⟨fun h=>h,fun h=>h⟩
@[simp]theorem b9f:Eh s d sz bytes (some (YK,ys)) K (.nil ZB)↔(YK=sz\/ys=[])/\ys.length*bytes<=2^47/\ys.length<2^62/\K ((s.drop d).add d (.list sz ys)) (.sl d sz 0 ys.length):=⟨fun h=>h,fun h=>h⟩
@[simp]theorem b0g:ZP P d s K (.app sz bytes x y)↔Eh s d sz bytes (s.elems (s.ev y)) K (s.ev x):=by
 first
 |exact⟨fun h=>h,fun h=>h⟩
 |(
  simp only[ZP,Eh,Ty,Tx,Tw,Tv,Tt,TJ,Um,Wi,T7,T6,TI,Ts,Tr];repeat' split
  all_goals first|(simp_all;done)|grind)
@[simp]theorem b1g{mx:Bool}{xs:List Operand}:ZP P d s K (.mm mx xs)↔Yx (c6V mx (xs.map s.ev)) fun p=>K s (.iv (.v (.int p.1 p.2))):=by
 first
 |exact⟨fun h=>h,fun h=>h⟩
 |(
  simp only[ZP,Ty,Tx,Tw,Tv,Tt,TJ,Um,Wi,T7,T6,TI,Ts,Tr];repeat' split
  all_goals first|(simp_all;done)|grind)
@[simp]theorem b2g{f:FuncId}{first caps:List Operand}:ZP P d s K (.V6 f first caps)↔Yx (Zm AV.cap (first.map s.ev)) fun a=>Yx (Zm AV.cap (caps.map s.ev)) fun b=>K s (.fn f a b):=by
 first
 |exact⟨fun h=>h,fun h=>h⟩
 |(
  simp only[ZP,Ej,Ty,Tx,Tw,Tv,Tt,TJ,Um,Wi,T7,T6,TI,Ts,Tr];repeat' split
  all_goals first|(simp_all;done)|grind)
@[simp]theorem b3g{f:FuncId}{args:List Operand}:ZP P d s K (.call f args)↔NC P d f [] args [] none s K:=⟨fun h=>h,fun h=>h⟩
end
def b4g(P:Program)(d:Nat)(args:List Operand)(x:Operand)(s:St)(K:St->AV->Prop)[Tg K]:AV->Prop
 | .fn f first caps=>XI P f=true/\LC P d f first args caps (some x) s K
 | .iv (.v (.func (.yield l) vf vc))=>vf= #[]/\vc= #[]/\c1L P l args s K
 | .iv (.v (.func (.func f) vf vc))=>vf= #[]/\vc= #[]/\XI P f=true/\LC P d f [] args [] none s K
 | _=>False
@[simp]theorem b5g{args:List Operand}{l:Nat}:b4g P d args x s K (.iv (.v (.func (.yield l) #[] #[])))↔a7R P l args s K:=⟨fun h=>h.2.2,fun h=>⟨rfl,rfl,h⟩⟩
@[simp]theorem b6g{args:List Operand}{f:FuncId}:b4g P d args x s K (.iv (.v (.func (.func f) #[] #[])))↔XI P f=true/\NC P d f [] args [] none s K:=⟨fun h=>h.2.2,fun h=>⟨rfl,rfl,h⟩⟩
@[simp]theorem b7g{args:List Operand}{f:FuncId}{first caps:List Z3}:b4g P d args x s K (.fn f first caps)↔XI P f=true/\NC P d f first args caps (some x) s K:=⟨fun h=>h,fun h=>h⟩
@[simp]theorem b8g{args:List Operand}:ZP P d s K (.Yz x args)↔b4g P d args x s K (s.ev x):=by
 first
 |exact⟨fun h=>h,fun h=>h⟩
 |(
  simp only[ZP,b4g,Ty,Tx,Tw,Tv,Tt,TJ,Um,Wi,T7,T6,TI,Ts,Tr];repeat' split
  all_goals first|(simp_all;done)|grind)
def snK(x:AV)(K:Bool->Prop)[Tg K]:Prop:=match x with
 | .nil _=>K true
 | .sl _ _ _ m=>∀b:Bool,(0<m->b=false)->K b
 | .iv (.Z6 _ xs)=>∀b:Bool,(xs≠[]->b=false)->K b
 | _=>False
section
variable{K2:Bool->Prop}{sz o n:Nat}{xs:List (List IV)}
@[simp]theorem b9g:snK (.nil sz) K2↔K2 true:=⟨fun h=>h,fun h=>h⟩
@[simp]theorem b0h:snK (.sl id sz o n) K2↔∀b:Bool,(0<n->b=false)->K2 b:=⟨fun h=>h,fun h=>h⟩
@[simp]theorem b1h:snK (.iv (.Z6 sz xs)) K2↔∀b:Bool,(xs≠[]->b=false)->K2 b:=⟨fun h=>h,fun h=>h⟩
@[simp]theorem b2h{neg:Bool}:ZP P d s K (.Qg neg x)↔snK (s.ev x) fun b=>K s (.iv (.v (.bool (if neg then !b else b)))):=by
 first
 |exact⟨fun h=>h,fun h=>h⟩
 |(
  simp only[ZP,snK,Ty,Tx,Tw,Tv,Tt,TJ,Um,Wi,T7,T6,TI,Ts,Tr];repeat' split
  all_goals first|(simp_all;done)|grind)
end
section
variable{sz bytes:Nat}{z:List AV}{l c m k:Operand}{sk:Sk}{ok:Bool}
def pW(s:St)(d sz bytes:Nat)(z:List AV)(m q:Int)(K:St->AV->Prop)[Tg K]:Option Nat->Prop
 |some ZB=>0<=m/\q=m/\m<2^62/\(bytes:Int)*m<=2^47/\sz=1/\K ((s.drop d).add d (.ZI ZB (a6R m.toNat []) none)) (.sl d 1 0 m.toNat)
 |none=>Yx (Zm AV.iv? z) fun zi=>0<=m/\q=m/\m<2^62/\(bytes:Int)*m<=2^47/\K ((s.drop d).add d (.list sz (a6R m.toNat zi))) (.sl d sz 0 m.toNat)
@[simp]theorem b3h{sz:Nat}:E6 [.nil sz]=some sz:=rfl
@[simp]theorem f1i{x:IV}{r:List AV}:E6 (.iv x::r)=none:=by cases r<;>rfl
@[simp]theorem b4h{x y:AV}{r:List AV}:E6 (x::y::r)=none:=by cases x<;>rfl
@[simp]theorem b5h{ZB:Nat}{m q:Int}:pW s d sz bytes z m q K (some ZB)↔0<=m/\q=m/\m<2^62/\(bytes:Int)*m<=2^47/\sz=1/\K ((s.drop d).add d (.ZI ZB (a6R m.toNat []) none)) (.sl d 1 0 m.toNat):=⟨fun h=>h,fun h=>h⟩
@[simp]theorem b6h{m q:Int}:pW s d sz bytes z m q K none↔Yx (Zm AV.iv? z) fun zi=>0<=m/\q=m/\m<2^62/\(bytes:Int)*m<=2^47/\K ((s.drop d).add d (.list sz (a6R m.toNat zi))) (.sl d sz 0 m.toNat):=⟨fun h=>h,fun h=>h⟩
@[simp]theorem b7h:ZP P d s K (.mks sz bytes z l c)↔Jf (s.ev l) fun m=>Jf (s.ev c) fun q=>pW s d sz bytes z m q K (E6 z):=by
 cases hz:E6 z with
 |some ZB=>
  simp only[ZP,hz,b5h,Um];repeat' split
  all_goals first|(simp_all;done)|grind
 |none=>
  simp only[ZP,hz,b6h,Ej,Um,Wi];repeat' split
  all_goals first|(simp_all;done)|grind
def f2i(s:St)(sz:Nat)(K:St->AV->Prop)[Tg K]:Option (Nat×List (List IV))->AV->Prop
 |some (YK,ys), .sl id ZB lo m=>Hv (look s.hp id) fun JQ xs=>(xs≠[]/\lo=0)/\(ZB=sz/\JQ=sz/\YK=sz)/\m=xs.length/\ys.length=m/\K (s.add id (.list sz ys)) (.iv (.v (.int .i64 m)))
 | _,_=>False
@[simp]theorem b8h{sz YK id ZB lo m:Nat}{ys:List (List IV)}:f2i s sz K (some (YK,ys)) (.sl id ZB lo m)↔Hv (look s.hp id) fun JQ xs=>(xs≠[]/\lo=0)/\(ZB=sz/\JQ=sz/\YK=sz)/\m=xs.length/\ys.length=m/\K (s.add id (.list sz ys)) (.iv (.v (.int .i64 m))):=c0L
@[simp]theorem f0v{sz:Nat}:ZP P d s K (.cpy sz x y)↔f2i s sz K (s.elems (s.ev y)) (s.ev x):=by
 simp only[ZP];generalize s.ev x=ax;generalize s.elems (s.ev y)=e
 cases e with
 |none=>cases ax<;>exact c0L
 |some p=>obtain⟨YK,ys⟩:=p;cases ax with
  |sl id ZB lo m=>
   simp only[b8h,T6]
   repeat' split
   all_goals first|(simp_all;done)|grind
  | _=>exact c0L
def f3i(s:St)(sz:Nat)(K:St->AV->Prop)[Tg K]:Option (List IV)->AV->Prop
 |some zi, .sl id ZB lo m=>Hv (look s.hp id) fun JQ xs=>(ZB=sz/\JQ=sz)/\(0<m/\lo+m<=xs.length)/\K (s.add id (.list sz (xs.take lo++a6R m zi++xs.drop (lo+m)))) (.Zp [])
 | _,_=>False
@[simp]theorem b9h{sz id ZB lo m:Nat}{zi:List IV}:f3i s sz K (some zi) (.sl id ZB lo m)↔Hv (look s.hp id) fun JQ xs=>(ZB=sz/\JQ=sz)/\(0<m/\lo+m<=xs.length)/\K (s.add id (.list sz (xs.take lo++a6R m zi++xs.drop (lo+m)))) (.Zp []):=c0L
@[simp]theorem f1v{sz:Nat}{z:List AV}:ZP P d s K (.clr sz z x)↔f3i s sz K (Zm AV.iv? z) (s.ev x):=by
 simp only[ZP,Ej];generalize s.ev x=ax;generalize Zm AV.iv? z=e
 cases e with
 |none=>cases ax<;>exact c0L
 |some zi=>cases ax with
  |sl id ZB lo m=>
   simp only[b9h,T6]
   repeat' split
   all_goals first|(simp_all;done)|grind
  | _=>exact c0L
@[simp]theorem b0i:ZP P d s K (.XD sk)↔K ((s.drop d).add d (.map sk fun _=>none)) (.mpr d):=⟨fun h=>h,fun h=>h⟩
@[simp]theorem b1i:ZP P d s K (.Hq sk m k)↔E8 (s.ev m) fun id=>Yx (SY (s.ev k)) fun kk=>Ek (look s.hp id) fun Xn g=>Xn=sk/\kk.1=(sk.1,sk.2.1)/\K (s.add id (.map sk (ZG g kk.2 none))) (.Zp []):=by
 first
 |exact⟨fun h=>h,fun h=>h⟩
 |(
  simp only[ZP,Ty,Tx,Tw,Tv,Tt,TJ,Um,Wi,T7,T6,TI,Ts,Tr];repeat' split
  all_goals first|(simp_all;done)|grind)
@[simp]theorem b2i:ZP P d s K (.Ho x)↔Yx (s.mapOf (s.ev x)) fun p=>∀n:Nat,(n=0↔∀k,p.2 k=none)->K s (.iv (.v (.int .i64 n))):=by
 first
 |exact⟨fun h=>h,fun h=>h⟩
 |(
  simp only[ZP,Ty,Tx,Tw,Tv,Tt,TJ,Um,Wi,T7,T6,TI,Ts,Tr];repeat' split
  all_goals first|(simp_all;done)|grind)
@[simp]theorem b3i:ZP P d s K (.JN sk z m k)↔E8 (s.ev m) fun id=>Yx (SY (s.ev k)) fun kk=>Yx (Zm AV.iv? z) fun zi=>Ek (look s.hp id) fun Xn g=>Xn=sk/\kk.1=(sk.1,sk.2.1)∧
 ∀n:Int,K (s.add id (.WT sk (ZG g kk.2 (some ((g kk.2).getD zi))) n kk.2)) (.Zp [Tq sk.2.2 (((g kk.2).getD zi).map .iv), .iv (.v (.int .i64 n))]):=by
 first
 |exact⟨fun h=>h,fun h=>h⟩
 |(
  simp only[ZP,Ty,Tx,Tw,Tv,Tt,TJ,Um,Wi,T7,T6,TI,Ts,Tr];repeat' split
  all_goals first|(simp_all;done)|grind)
@[simp]theorem b4i:ZP P d s K (.est m k x)↔E8 ((s.Y9 [s.ev x]).ev m) fun id=>Jf ((s.Y9 [s.ev x]).ev k) fun n'=>Yx (((s.Y9 [s.ev x]).ev x).cellsOf.bind fun cs=>Zm AV.iv? cs) fun c=>
 a5S (look (s.Y9 [s.ev x]).hp id) fun sk g n kk=>n'=n/\Hn ((s.Y9 [s.ev x]).ev x)=sk.2.2/\K ((s.Y9 [s.ev x]).add id (.map sk (ZG g kk (some c)))) .un:=by
 first
 |exact⟨fun h=>h,fun h=>h⟩
 |(
  simp only[ZP,Ej,Ty,Tx,Tw,Tv,Tt,TJ,Um,Wi,T7,T6,TI,Ts,Tr];repeat' split
  all_goals first|(simp_all;done)|grind)
def pV(x:AV)(K:Sk->(List Value->Option (List IV))->Prop)[Tg K]:Prop:=match x with| .iv (.mp sk g)=>K sk g| _=>False
@[simp]theorem b5i{g}{K:Sk->(List Value->Option (List IV))->Prop}:pV (.iv (.mp sk g)) K↔K sk g:=⟨fun h=>h,fun h=>h⟩
@[simp]theorem b6i:ZP P d s K (.QY sk x)↔pV (((s.Y9 [s.ev x]).drop d).ev x) fun E5 g=>E5=sk∧
 ∀L:List (List Value),L.Nodup->(∀k,k∈L↔g k≠none)->(∀k∈L,k.mapM Za=some sk.2.1)->K (((s.Y9 [s.ev x]).drop d).add d (.iter sk g L none)) (.ptr d 0):=by
 first
 |exact⟨fun h=>h,fun h=>h⟩
 |(
  simp only[ZP,pV,Ty,Tx,Tw,Tv,Tt,TJ,Um,Wi,T7,T6,TI,Ts,Tr];repeat' split
  all_goals first|(simp_all;done)|grind)
def JM(x:AV)(K:Nat->Prop)[Tg K]:Prop:=match x with| .ptr id 0=>K id| _=>False
@[simp]theorem b7i{K:Nat->Prop}:JM (.ptr id 0) K↔K id:=⟨fun h=>h,fun h=>h⟩
@[simp]theorem b8i:ZP P d s K (.nxt x)↔JM (s.ev x) fun id=>E9 (look s.hp id) fun sk g left _=>(left=[]->K s (.Zp [.iv (.v (.bool false))]))∧
 ∀k c,k∈left->g k=some c->k.mapM Za=some sk.2.1->K (s.add id (.iter sk g (O6 k left) (some k))) (.Zp [vtrue,Tq sk.1 (k.map fun v=> .iv (.v v)),Tq sk.2.2 (c.map .iv)]):=by
 first
 |exact⟨fun h=>h,fun h=>h⟩
 |(
  simp only[ZP,JM,Ty,Tx,Tw,Tv,Tt,TJ,Um,Wi,T7,T6,TI,Ts,Tr];repeat' split
  all_goals first|(simp_all;done)|grind)
@[simp]theorem b9i:ZP P d s K (.S7 x)↔JM (s.ev x) fun id=>E9 (look s.hp id) fun sk g _ last=>Yx last fun k=>∀c,g k=some c->K s (.Zp [Tq sk.1 (k.map fun v=> .iv (.v v)),Tq sk.2.2 (c.map .iv)]):=by
 simp only[ZP];split
 ·rename_i i e;rw[e];simp only[JM]
  cases hl:look s.hp i with
  |none=>simp[E9]
  |some o=>cases o with
   |iter sk g left last=>cases last<;>simp[E9]
   | _=>simp[E9]
 ·rename_i hn;refine⟨fun h=>h.elim,fun h=>?_⟩;unfold JM at h;split at h
  ·rename_i e;exact(hn _ e).elim
  ·exact h
end
end
section
variable{n r:St->Prop}{x g:Nat->St->Prop}{s:St}{i:Nat}
theorem b0j:YC.n ⟨n,x,r,g⟩ s↔n s:=⟨fun h=>h,fun h=>h⟩
theorem b1j:YC.x ⟨n,x,r,g⟩ i s↔x i s:=⟨fun h=>h,fun h=>h⟩
theorem b2j:YC.r ⟨n,x,r,g⟩ s↔r s:=⟨fun h=>h,fun h=>h⟩
theorem b3j:YC.g ⟨n,x,r,g⟩ i s↔g i s:=⟨fun h=>h,fun h=>h⟩
end
attribute [simp ↓] b0j b1j b2j b3j
attribute [simp ↓] onB_b onG_b a8S onD_t onD_f a9S a0T a1T a2T a3T onV_v onI_i onT_t a4T onS_n a5T a6T a7T a8T a9T a0U a1U a2U a5Y a6Y a7Y a8Y a9Y a0Z a1Z a2Z a3Z a4Z a5Z a6Z a7Z a8Z a9Z b0a b1a b2a b3a b4a b5a b6a b7a b8a b9a b0b b1b b2b b3b b4b b5b b6b b7b b8b b0c b1c b2c b3c b4c b5c b6c b7c b8c b9c b0d b1d b2d b3d b4d b5d b6d b7d b8d b9d b0e b1e b2e b3e b4e b5e b6e b7e b8e b9e b0f b1f b2f b3f b4f b5f b6f b7f b8f b9f b0g b1g b2g b3g b7g b6g b8g b9g b0h b1h b2h b7h b0i b1i b2i b3i b4i b5i b6i b7i b8i b9i
attribute [simp ↓ low] onD_b onH_t onH_f
section
variable{P:Program}{d id off:Nat}{s:St}{K:St->AV->Prop}{x y m k:Operand}{sk:Sk}{z:List AV}{ok:Bool}
abbrev Mo:=Nat×Sk×Nat×(List Value->Option (List (List IV)))×Option (List Value)
def onZ(z:List AV)(K:Nat->Prop)[Tg K]:Prop:=match z with| [.nil sz]=>K sz| _=>False
@[simp]theorem d9D{sz:Nat}{K:Nat->Prop}:onZ [.nil sz] K↔K sz:=⟨fun h=>h,fun h=>h⟩
theorem d0E{z:List AV}{K:Nat->Prop}:onZ z K↔∃sz,z=[.nil sz]/\K sz:=by
 unfold onZ;split<;>simp_all
def e8R(d:Nat)(s:St)(sk:Sk)(z:List AV)(m k:Operand)(ok:Bool)(K:St->AV->Prop)[Tg K]:Option Mo->Prop
 |none=>Yx (s.mapOf (s.ev m)) fun p=>Yx (SY (s.ev k)) fun q=>p.1=sk/\q.1=(sk.1,sk.2.1)/\K s (N9 z sk.2.2 ok (p.2 q.2))
 |some (id,Xn,sz,g,hole)=>Yx (SY ((s.drop d).ev k)) fun q=>onZ z fun ZB=>ok=false/\Xn=sk/\q.1=(sk.1,sk.2.1)/\ZB=sz/\hole=none∧
  (g q.2=none->K (s.drop d) (.nil sz))/\∀xs,g q.2=some xs->K (((s.drop d).add id (.YJ sk sz (ZG g q.2 none) (some q.2))).add d (.YU id sz xs)) (.sl d sz 0 xs.length)
@[simp]theorem d1E:e8R d s sk z m k ok K none↔Yx (s.mapOf (s.ev m)) fun p=>Yx (SY (s.ev k)) fun q=>p.1=sk/\q.1=(sk.1,sk.2.1)/\K s (N9 z sk.2.2 ok (p.2 q.2)):=⟨fun h=>h,fun h=>h⟩
@[simp]theorem d2E{Xn sz g hole}:e8R d s sk z m k ok K (some (id,Xn,sz,g,hole))↔Yx (SY ((s.drop d).ev k)) fun q=>onZ z fun ZB=>ok=false/\Xn=sk/\q.1=(sk.1,sk.2.1)/\ZB=sz/\hole=none∧
 (g q.2=none->K (s.drop d) (.nil sz))/\∀xs,g q.2=some xs->K (((s.drop d).add id (.YJ sk sz (ZG g q.2 none) (some q.2))).add d (.YU id sz xs)) (.sl d sz 0 xs.length):=⟨fun h=>h,fun h=>h⟩
@[simp]theorem d3E:ZP P d s K (.UT sk z m k ok)↔e8R d s sk z m k ok K ((s.drop d).QU ((s.drop d).ev m)):=by
 simp only[ZP];split
 ·rename_i id Xn sz g hole e;rw[e];simp only[d2E];split
  ·rename_i Tm kk ZB e2;rw[e2];simp only[a4T,d9D]
   cases hg:g kk<;>simp
  ·rename_i hn;refine⟨fun h=>h.elim,fun h=>?_⟩;obtain⟨q,e2,h⟩:=Wi.1 h;obtain⟨ZB,e3,h⟩:=d0E.1 h;exact hn _ _ _ e2 e3
 ·rename_i e;rw[e];simp only[d1E];split
  ·rename_i e1 e2;rw[e1,e2];exact⟨fun h=>h,fun h=>h⟩
  ·rename_i hn;refine⟨fun h=>h.elim,fun h=>?_⟩;obtain⟨q,e2,h⟩:=Wi.1 h;obtain⟨p,e3,h⟩:=Wi.1 h;exact hn _ _ _ _ e2 e3
def FI(x:AV)(K:Nat->Nat->Nat->Prop)[Tg K]:Prop:=match x with| .sl id sz 0 len=>K id sz len| _=>False
@[simp]theorem d4E{sz len:Nat}{K:Nat->Nat->Nat->Prop}:FI (.sl id sz 0 len) K↔K id sz len:=⟨fun h=>h,fun h=>h⟩
theorem d5E{x:AV}{K:Nat->Nat->Nat->Prop}:FI x K↔∃id sz len,x= .sl id sz 0 len/\K id sz len:=by
 unfold FI;split
 ·exact⟨fun h=>⟨_,_,_,rfl,h⟩,fun⟨_,_,_,e,h⟩=>by cases e;exact h⟩
 ·rename_i hn;exact⟨fun h=>h.elim,fun⟨_,_,_,e,h⟩=>(hn _ _ _ e).elim⟩
def FH(
 s:St) (sk:Sk) (m k x:Operand) (K:St->AV->Prop) [Tg K]:Option Mo->Prop
 |none=>E8 ((s.Y9 [s.ev x]).rL ((s.Y9 [s.ev x]).ev m)) fun id=>Yx (SY ((s.Y9 [s.ev x]).ev k)) fun q=>Yx (((s.Y9 [s.ev x]).ev x).cellsOf.bind fun cs=>Zm AV.iv? cs) fun c=>Ek (look (s.Y9 [s.ev x]).hp id) fun Xn g=>
  Xn=sk/\q.1=(sk.1,sk.2.1)/\Hn ((s.Y9 [s.ev x]).ev x)=sk.2.2/\K ((s.Y9 [s.ev x]).add id (.map sk (ZG g q.2 (some c)))) .un
 |some (id,Xn,sz,g,hole)=>Yx (SY (s.ev k)) fun q=>FI (s.ev x) fun d' ZB len=>Yx (look s.hp d') fun o=>Yx o.T5 fun xs=>
  Xn=sk/\q.1=(sk.1,sk.2.1)/\ZB=sz/\d'<1000/\d'≠id/\len=xs.2.length/\(o.org?=none\/o.org?=some id)∧
   (hole=some q.2\/(hole=none/\g q.2=none))/\K ((s.kill d').add id (.YJ sk sz (ZG g q.2 (some xs.2)) none)) .un
@[simp]theorem d6E:FH s sk m k x K none↔E8 ((s.Y9 [s.ev x]).rL ((s.Y9 [s.ev x]).ev m)) fun id=>Yx (SY ((s.Y9 [s.ev x]).ev k)) fun q=>Yx (((s.Y9 [s.ev x]).ev x).cellsOf.bind fun cs=>Zm AV.iv? cs) fun c=>Ek (look (s.Y9 [s.ev x]).hp id) fun Xn g=>
 Xn=sk/\q.1=(sk.1,sk.2.1)/\Hn ((s.Y9 [s.ev x]).ev x)=sk.2.2/\K ((s.Y9 [s.ev x]).add id (.map sk (ZG g q.2 (some c)))) .un:=⟨fun h=>h,fun h=>h⟩
@[simp]theorem d7E{Xn sz g hole}:FH s sk m k x K (some (id,Xn,sz,g,hole))↔Yx (SY (s.ev k)) fun q=>FI (s.ev x) fun d' ZB len=>Yx (look s.hp d') fun o=>Yx o.T5 fun xs=>
 Xn=sk/\q.1=(sk.1,sk.2.1)/\ZB=sz/\d'<1000/\d'≠id/\len=xs.2.length/\(o.org?=none\/o.org?=some id)∧
  (hole=some q.2\/(hole=none/\g q.2=none))/\K ((s.kill d').add id (.YJ sk sz (ZG g q.2 (some xs.2)) none)) .un:=⟨fun h=>h,fun h=>h⟩
@[simp]theorem d8E:ZP P d s K (.YI sk m k x)↔FH s sk m k x K (s.QU (s.ev m)):=by
 simp only[ZP];split
 ·rename_i id Xn sz g hole e;rw[e];simp only[d7E];split
  ·rename_i Tm kk d' ZB len e1 e2;rw[e1,e2];simp only[a4T,d4E]
   cases look s.hp d' with
   |none=>simp
   |some o=>
    simp only[a4T]
    cases o.T5 with
    |none=>simp
    |some p=>obtain⟨_,xs⟩:=p;simp
  ·rename_i hn;refine⟨fun h=>h.elim,fun h=>?_⟩;obtain⟨q,e2,h⟩:=Wi.1 h;obtain⟨_,_,_,e3,h⟩:=d5E.1 h;exact hn _ _ _ _ _ e2 e3
 ·rename_i e;rw[e];simp only[d6E,Ej];split
  ·rename_i id Tm kk c e1 e2 e3;rw[e1,e2,e3];simp only[a2U,a4T];split
   ·rename_i Xn g e4;rw[e4];simp
   ·rename_i hn;refine⟨fun h=>h.elim,fun h=>?_⟩;obtain⟨_,_,e4,h⟩:=TI.1 h;exact hn _ _ e4
  ·rename_i hn;refine⟨fun h=>h.elim,fun h=>?_⟩;obtain⟨id,e1,h⟩:=TJ.1 h;obtain⟨q,e2,h⟩:=Wi.1 h;obtain⟨c,e3,h⟩:=Wi.1 h;exact hn _ _ _ _ e1 e2 e3
end
section
variable{id sz lo len i off:Nat}{x:IV}{cs:List AV}{f:FuncId}{a b:List Z3}{s:St}
@[simp]theorem d9E:AV.cellsOf (.agg cs)=some cs:=rfl
@[simp]theorem d0F:AV.cellsOf (.iv x)=some [.iv x]:=rfl
@[simp]theorem d1F:AV.cellsOf (.nil sz)=some [.nil sz]:=rfl
@[simp]theorem d2F:AV.cellsOf (.sl id sz lo len)=some [.sl id sz lo len]:=rfl
@[simp]theorem d3F:AV.cellsOf (.ptr id off)=some [.ptr id off]:=rfl
@[simp]theorem d4F:AV.cellsOf (.ep id sz i off)=some [.ep id sz i off]:=rfl
@[simp]theorem d5F:AV.cellsOf (.mpr id)=some [.mpr id]:=rfl
@[simp]theorem d6F:AV.cellsOf (.fn f a b)=some [.fn f a b]:=rfl
@[simp]theorem d7F:AV.one (.iv x)=true:=rfl
@[simp]theorem f0C:AV.one (.nil sz)=true:=rfl
@[simp]theorem f3X:AV.one (.sl id sz lo len)=true:=rfl
@[simp]theorem f1C:AV.one (.ptr id off)=true:=rfl
@[simp]theorem f4X:AV.one (.ep id sz i off)=true:=rfl
@[simp]theorem f2C:AV.one (.mpr id)=true:=rfl
@[simp]theorem f5X:AV.one (.fn f a b)=true:=rfl
@[simp]theorem f6X:AV.iv? (.iv x)=some x:=rfl
@[simp]theorem f3C:AV.iv? (.nil sz)=some (.Z6 sz []):=rfl
@[simp]theorem f7X:AV.Xj (.iv x)=some x:=rfl
@[simp]theorem f4C:AV.Xj (.nil sz)=some (.Z6 sz []):=rfl
@[simp]theorem f8X:AV.Xj (.sl id sz lo len)=none:=rfl
@[simp]theorem f5C:AV.Xj (.ptr id off)=none:=rfl
@[simp]theorem f6C:AV.Xj (.mpr id)=none:=rfl
@[simp]theorem f9X:AV.Xj (.fn f a b)=none:=rfl
@[simp]theorem d8F:SM []=some []:=rfl
@[simp]theorem f9m:SM (.iv x::cs)=(SM cs).map fun l=>x::l:=rfl
@[simp]theorem f0n:SM (.nil sz::cs)=(SM cs).map fun l=> .Z6 sz []::l:=rfl
@[simp]theorem f1n:SM (.sl id sz lo len::cs)=none:=rfl
@[simp]theorem d9F:SM (.mpr id::cs)=none:=rfl
@[simp]theorem d0G:SM (.ptr id off::cs)=none:=rfl
@[simp]theorem f2n:SM (.fn f a b::cs)=none:=rfl
@[simp]theorem d1G{l:List IV}:SM (l.map .iv)=some l:=by
 induction l with
 |nil=>rfl
 |cons x l ih=>simp[ih]
@[simp]theorem f3n{α β:Type}{g:α->Option β}:Zm g []=some []:=rfl
@[simp]theorem f4n{l:List IV}:Zm AV.iv? (l.map .iv)=some l:=by
 induction l with
 |nil=>rfl
 |cons x l ih=>simp[Zm,ih]
@[simp]theorem f7C:Zm AV.iv? (.iv x::cs)=(Zm AV.iv? cs).map fun l=>x::l:=rfl
@[simp]theorem f5n:Zm AV.iv? (.nil sz::cs)=(Zm AV.iv? cs).map fun l=> .Z6 sz []::l:=rfl
@[simp]theorem d2G:Zm AV.cap (.ptr id off::cs)=(Zm AV.cap cs).map fun l=> .ptr id off::l:=rfl
@[simp]theorem d3G:Zm AV.cap (.iv x::cs)=(Zm AV.cap cs).map fun l=> .val x::l:=rfl
@[simp]theorem d4G:Zm AV.cap (.nil sz::cs)=(Zm AV.cap cs).map fun l=> .val (.Z6 sz [])::l:=rfl
@[simp]theorem d5G:Z3.av (.ptr id off)= .ptr id off:=rfl
@[simp]theorem d6G:Z3.av (.val x)= .iv x:=rfl
@[simp]theorem d7G:Hn (.agg cs)=true:=rfl
@[simp]theorem f6n:Hn (.iv x)=false:=rfl
@[simp]theorem d8G:Hn (.nil sz)=false:=rfl
@[simp]theorem f0Y:Tq true cs= .agg cs:=rfl
@[simp]theorem f1Y{y:AV}:Tq false [y]=y:=rfl
@[simp]theorem g9m{z:List AV}{ag ok:Bool}{c:List IV}:N9 z ag ok (some c)=if ok then .Zp [Tq ag (c.map .iv), .iv (.v (.bool true))]else Tq ag (c.map .iv):=rfl
@[simp]theorem g0n{z:List AV}{ag ok:Bool}:N9 z ag ok none=if ok then .Zp [Tq ag z, .iv (.v (.bool false))]else Tq ag z:=rfl
@[simp]theorem g7o{b:Bool}:Za (.bool b)=some .b:=rfl
@[simp]theorem g8o{k:IntKind}{n:Int}:Za (.int k n)=some (.i k):=rfl
@[simp]theorem g9o{t:ByteArray}:Za (.string t)=some .s:=rfl
@[simp]theorem f8C{b:Bool}:SY (.iv (.v (.bool b)))=some ((false,[.b]),[.bool b]):=rfl
@[simp]theorem f9C{k:IntKind}{n:Int}:SY (.iv (.v (.int k n)))=some ((false,[.i k]),[.int k n]):=rfl
@[simp]theorem f0D{t:ByteArray}:SY (.iv (.v (.string t)))=some ((false,[.s]),[.string t]):=rfl
@[simp]theorem d9G:SY (.agg cs)=(Zm IX cs).map fun l=>((true,l.map (·.1)),l.map (·.2)):=by simp[SY,Ej]
@[simp]theorem d0H{b:Bool}:Zm IX (.iv (.v (.bool b))::cs)=(Zm IX cs).map fun l=>(.b, .bool b)::l:=rfl
@[simp]theorem d1H{k:IntKind}{n:Int}:Zm IX (.iv (.v (.int k n))::cs)=(Zm IX cs).map fun l=>(.i k, .int k n)::l:=rfl
@[simp]theorem d2H{t:ByteArray}:Zm IX (.iv (.v (.string t))::cs)=(Zm IX cs).map fun l=>(.s, .string t)::l:=rfl
theorem d3H(a b:ByteArray):(a==b)=decide (a=b):=by
 cases a with|mk x=>cases b with|mk y=>
 rw[b3S,decide_eq_true_eq,d8R, <-beq_iff_eq (a:=x) (b:=y)];exact⟨fun h=>h,fun h=>h⟩
@[simp]theorem d4H:Ug [] [] []=some true:=rfl
@[simp]theorem d5H{ks:List Kd}{a b:Bool}{r q:List AV}:Ug (.b::ks) (.iv (.v (.bool a))::r) (.iv (.v (.bool b))::q)=(Ug ks r q).map fun y=>(a==b)&&y:=rfl
@[simp]theorem d6H{ks:List Kd}{k:IntKind}{a b:Int}{r q:List AV}:Ug (.i k::ks) (.iv (.v (.int .i64 a))::r) (.iv (.v (.int .i64 b))::q)=(Ug ks r q).map fun y=>(a==b)&&y:=rfl
@[simp]theorem d7H{ks:List Kd}{a b:ByteArray}{r q:List AV}:Ug (.s::ks) (.iv (.v (.string a))::r) (.iv (.v (.string b))::q)=(Ug ks r q).map fun y=>decide (a=b)&&y:=by rw[<-d3H];rfl
theorem d8H{a b:ByteArray}:oB a b=decide (a=b):=by
 unfold oB;rw[b3S];simp only[beq_iff_eq,decide_eq_true_eq];constructor
 ·intro h
  have e:a.data.toList=b.data.toList:=by simpa[ByteArray.toList_eq]using h
  cases a;cases b;simp only at e
  congr 1
  exact Array.toList_inj.1 e
 ·rintro rfl;rfl
@[simp]theorem f1D{k k':IntKind}{m n:Int}:YY .add (.int .i64 m) (.int .i64 n)=some (.int .i64 (IntKind.i64.wrap (m+n))):=rfl
@[simp]theorem f2D{m n:Int}:YY .sub (.int .i64 m) (.int .i64 n)=some (.int .i64 (IntKind.i64.wrap (m-n))):=rfl
@[simp]theorem f3D{m n:Int}:YY .mul (.int .i64 m) (.int .i64 n)=some (.int .i64 (IntKind.i64.wrap (m*n))):=rfl
@[simp]theorem f4D{m n:Int}:YY .rem (.int .i64 m) (.int .i64 n)=if n=0 then none else some (.int .i64 (m.tmod n)):=rfl
@[simp]theorem f5D{m n:Int}:YY .and (.int .i64 m) (.int .i64 n)=some (.int .i64 (c9U .and .i64 m n)):=rfl
@[simp]theorem f6D{k:IntKind}{m n:Int}:YY .eql (.int k m) (.int k n)=some (.bool (m==n)):=by simp[YY,P1]
@[simp]theorem f7D{k:IntKind}{m n:Int}:YY .neq (.int k m) (.int k n)=some (.bool (m != n)):=by simp[YY,P1]
@[simp]theorem f8D{k:IntKind}{m n:Int}:YY .lss (.int k m) (.int k n)=some (.bool (decide (m<n))):=by simp[YY,P1]
@[simp]theorem f9D{k:IntKind}{m n:Int}:YY .leq (.int k m) (.int k n)=some (.bool (decide (m<=n))):=by simp[YY,P1]
@[simp]theorem f0E{k:IntKind}{m n:Int}:YY .gtr (.int k m) (.int k n)=some (.bool (decide (n<m))):=by simp[YY,P1]
@[simp]theorem f1E{k:IntKind}{m n:Int}:YY .geq (.int k m) (.int k n)=some (.bool (decide (n<=m))):=by simp[YY,P1]
@[simp]theorem f7n{m n:ByteArray}:YY .eql (.string m) (.string n)=some (.bool (decide (m=n))):=by rw[<-d8H];rfl
@[simp]theorem f8n{m n:ByteArray}:YY .neq (.string m) (.string n)=some (.bool !(decide (m=n))):=by rw[<-d8H];rfl
@[simp]theorem f9n{m n:ByteArray}:YY .lss (.string m) (.string n)=some (.bool (UI m n)):=rfl
@[simp]theorem f0o{m n:ByteArray}:YY .leq (.string m) (.string n)=some (.bool (UI m n||decide (m=n))):=by rw[<-d8H];rfl
@[simp]theorem f1o{m n:ByteArray}:YY .gtr (.string m) (.string n)=some (.bool !(UI m n||decide (m=n))):=by rw[<-d8H];rfl
@[simp]theorem f2Y{b:Bool}:unV .not (.bool b)=some (.bool (!b)):=rfl
@[simp]theorem f3Y{n:Int}:unV .neg (.int .i64 n)=some (.int .i64 (IntKind.i64.wrap (0-n))):=rfl
@[simp]theorem f2E{d:Nat}:s.bound d none=some (d:Int):=rfl
def AV.int?:AV->Option Int
 | .iv (.v (.int _ n))=>some n
 | _=>none
@[simp]theorem int?_i{k:IntKind}{n:Int}:AV.int? (.iv (.v (.int k n)))=some n:=rfl
@[simp]theorem f3E{d:Nat}{x:Operand}:s.bound d (some x)=(s.ev x).int?:=by
 simp only[St.bound]
 cases s.ev x with
 |iv x=>cases x with
  |v u=>cases u<;>rfl
  | _=>rfl
 | _=>rfl
@[simp]theorem f4Y{t:Nat}:s.ev (.tmp t)=s.get t:=rfl
@[simp]theorem g0p{b:Bool}:s.ev (.const (.bool b))= .iv (.v (.bool b)):=rfl
@[simp]theorem g1p{k:IntKind}{n:Int}:s.ev (.const (.int k n))= .iv (.v (.int k n)):=rfl
@[simp]theorem g2p{t:ByteArray}:s.ev (.const (.string t))= .iv (.v (.string t)):=rfl
@[simp]theorem g3p{f:FuncId}:s.ev (.func f)= .fn f [] []:=rfl
@[simp]theorem f2o{xs:List (List IV)}:s.elems (.iv (.Z6 sz xs))=some (sz,xs):=rfl
@[simp]theorem d9H:s.elems (.nil sz)=some (sz,[]):=rfl
@[simp]theorem f3o:s.elems (.sl id sz lo len)=((look s.hp id).bind Ob.T5).map fun p=>(sz,(p.2.drop lo).take len):=by
 simp only[St.elems]
 cases look s.hp id with
 |none=>rfl
 |some o=>cases h:o.T5<;>simp[h]
@[simp]theorem f4o{xs:List (List IV)}:Ob.T5 (.list sz xs)=some (sz,xs):=rfl
@[simp]theorem f5o{xs:List (List IV)}:Ob.T5 (.YU id sz xs)=some (sz,xs):=rfl
@[simp]theorem d0I{z:Nat}{xs ys:List (List IV)}:Ob.Xu (.list z ys) sz xs= .list sz xs:=rfl
@[simp]theorem d1I{z:Nat}{xs ys:List (List IV)}:Ob.Xu (.YU id z ys) sz xs= .YU id sz xs:=rfl
@[simp]theorem f6o{xs:List (List IV)}:Ob.org? (.list sz xs)=none:=rfl
@[simp]theorem f7o{xs:List (List IV)}:Ob.org? (.YU id sz xs)=some id:=rfl
def moH(id:Nat):Option Ob->Option Mo
 |some (.YJ sk sz g hole)=>some (id,sk,sz,g,hole)
 | _=>none
def maH:Option Ob->Option (Sk×(List Value->Option (List IV)))
 |some (.map sk g)=>some (sk,g)
 |some (.WT sk g _ _)=>some (sk,g)
 | _=>none
@[simp]theorem f8o{sk g hole}:moH id (some (.YJ sk sz g hole))=some (id,sk,sz,g,hole):=rfl
@[simp]theorem f4E{sk g}:moH id (some (.map sk g))=none:=rfl
@[simp]theorem f9o{sk g n k}:moH id (some (.WT sk g n k))=none:=rfl
@[simp]theorem f5E{sk g}:maH (some (.map sk g))=some (sk,g):=rfl
@[simp]theorem f0p{sk g n k}:maH (some (.WT sk g n k))=some (sk,g):=rfl
@[simp]theorem d2I:s.mapOf (.mpr id)=maH (look s.hp id):=rfl
@[simp]theorem f1p{sk g}:s.mapOf (.iv (.mp sk g))=some (sk,g):=rfl
@[simp]theorem f2p:s.QU (.mpr id)=moH id (look s.hp id):=rfl
@[simp]theorem f6E:s.QU (.iv x)=none:=rfl
@[simp]theorem f5Y:AV.ids (.iv x)=[]:=rfl
@[simp]theorem f7E:AV.ids (.nil sz)=[]:=rfl
@[simp]theorem f6Y:AV.ids .un=[]:=rfl
@[simp]theorem f8E:AV.ids (.ptr id off)=[]:=rfl
@[simp]theorem f7Y:AV.ids (.fn f a b)=[]:=rfl
@[simp]theorem f8Y:AV.ids (.sl id sz lo len)=[id]:=rfl
@[simp]theorem f9E:AV.ids (.mpr id)=[id]:=rfl
@[simp]theorem f0F:s.Y9 []=s:=rfl
@[simp]theorem f9Y{l:List AV}:s.Y9 (.iv x::l)=s.Y9 l:=rfl
@[simp]theorem f0Z{l:List AV}:s.Y9 (.nil sz::l)=s.Y9 l:=rfl
@[simp]theorem f1F{l:List AV}:s.Y9 (.ptr id off::l)=s.Y9 l:=rfl
@[simp]theorem f1Z{l:List AV}:s.Y9 (.fn f a b::l)=s.Y9 l:=rfl
@[simp]theorem f2Z{l:List AV}:s.Y9 (.sl id sz lo len::l)=(if id<1000 then s.drop id else s).Y9 l:=rfl
@[simp]theorem f2F{l:List AV}:s.Y9 (.mpr id::l)=(if id<1000 then s.drop id else s).Y9 l:=rfl
@[simp]theorem f3F{l:List IV}{r:List AV}:s.Y9 (.agg (l.map .iv)::r)=s.Y9 r:=by
 have:AV.ids (.agg (l.map .iv))=[]:=by
  simp only[AV.ids]
  induction l with
  |nil=>rfl
  |cons x l ih=>simp[ih]
 simp[St.Y9,this]
@[simp]theorem d3I{r:List AV}:s.Y9 (.agg []::r)=s.Y9 r:=rfl
@[simp]theorem d4I{l r:List AV}:s.Y9 (.agg (.iv x::l)::r)=s.Y9 (.agg l::r):=rfl
@[simp]theorem d5I{l r:List AV}:s.Y9 (.agg (.nil sz::l)::r)=s.Y9 (.agg l::r):=rfl
@[simp]theorem d6I{l r:List AV}:s.Y9 (.agg (.fn f a b::l)::r)=s.Y9 (.agg l::r):=rfl
@[simp]theorem d7I{l r:List AV}:s.Y9 (.agg (.sl id sz lo len::l)::r)=(if id<1000 then s.drop id else s).Y9 (.agg l::r):=rfl
@[simp]theorem f3Z{α:Type}{k:Nat}:look ([]:List (Nat×α)) k=none:=rfl
@[simp]theorem f4Z{α:Type}{j k:Nat}{y:α}{r:List (Nat×α)}:look ((j,y)::r) k=if j=k then some y else look r k:=rfl
@[simp]theorem d8I{z:List AV}:Fo s z []=some z:=rfl
@[simp]theorem f3p:RQ s sz []=some []:=rfl
@[simp]theorem g4p{mx:Bool}{k:IntKind}{n:Int}{r:List AV}:c6V mx (.iv (.v (.int k n))::r)=Et mx k n r:=rfl
@[simp]theorem f4F{mx:Bool}{k:IntKind}{n:Int}:Et mx k n []=some (k,n):=rfl
@[simp]theorem g1n{mx:Bool}{k j:IntKind}{n m:Int}{r:List AV}:Et mx k n (.iv (.v (.int j m))::r)=Et mx k (if mx then max n m else min n m) r:=rfl
@[simp]theorem f4p{p:Nat->Bool}:AV.kc p (.iv x)= .iv x:=rfl
@[simp]theorem f5Z{p:Nat->Bool}:AV.kc p (.nil sz)= .nil sz:=rfl
@[simp]theorem g2n{p:Nat->Bool}:AV.kc p .un= .un:=rfl
@[simp]theorem f5F{p:Nat->Bool}:AV.kc p .junk= .junk:=rfl
@[simp]theorem f6Z{p:Nat->Bool}:AV.kc p (.ptr id off)=if p id then .junk else .ptr id off:=rfl
@[simp]theorem g3n{p:Nat->Bool}:AV.kc p (.sl id sz lo len)=if p id then .junk else .sl id sz lo len:=rfl
@[simp]theorem g4n{p:Nat->Bool}:AV.kc p (.ep id sz i off)=if p id then .junk else .ep id sz i off:=rfl
@[simp]theorem f7Z{p:Nat->Bool}:AV.kc p (.mpr id)=if p id then .junk else .mpr id:=rfl
@[simp]theorem g5n{p:Nat->Bool}:AV.kc p (.fn f a b)=if a.any (Z3.of p)||b.any (Z3.of p)then .junk else .fn f a b:=rfl
@[simp]theorem f6F{p:Nat->Bool}:AV.kc p (.agg cs)= .junk:=rfl
@[simp]theorem f7F{p:Nat->Bool}:AV.kc p (.Zp cs)= .junk:=rfl
@[simp]theorem f8F{p:Nat->Bool}:Z3.of p (.ptr id off)=p id:=rfl
@[simp]theorem f9F{p:Nat->Bool}:Z3.of p (.val x)=false:=rfl
@[simp]theorem f0G{g:AV->AV}:AV.ZQ g (.iv x)=g (.iv x):=rfl
@[simp]theorem f1G{g:AV->AV}:AV.ZQ g (.nil sz)=g (.nil sz):=rfl
@[simp]theorem f2G{g:AV->AV}:AV.ZQ g .un=g .un:=rfl
@[simp]theorem d9I{g:AV->AV}:AV.ZQ g .junk=g .junk:=rfl
@[simp]theorem f5p{g:AV->AV}:AV.ZQ g (.ptr id off)=g (.ptr id off):=rfl
@[simp]theorem f3G{g:AV->AV}:AV.ZQ g (.sl id sz lo len)=g (.sl id sz lo len):=rfl
@[simp]theorem f4G{g:AV->AV}:AV.ZQ g (.ep id sz i off)=g (.ep id sz i off):=rfl
@[simp]theorem f6p{g:AV->AV}:AV.ZQ g (.mpr id)=g (.mpr id):=rfl
@[simp]theorem f5G{g:AV->AV}:AV.ZQ g (.fn f a b)=g (.fn f a b):=rfl
@[simp]theorem f7p{g:AV->AV}:AV.ZQ g (.agg cs)= .agg (cs.map g):=rfl
@[simp]theorem f8p{g:AV->AV}:AV.ZQ g (.Zp cs)= .Zp (cs.map (AV.Jy g)):=rfl
@[simp]theorem f6G{g:AV->AV}:AV.Jy g (.iv x)=g (.iv x):=rfl
@[simp]theorem f9p{g:AV->AV}:AV.Jy g (.agg cs)= .agg (cs.map g):=rfl
@[simp]theorem d0J{g:AV->AV}:Ob.ZQ g (.box cs)= .box (cs.map g):=rfl
@[simp]theorem d1J{g:AV->AV}{xs:List (List IV)}:Ob.ZQ g (.list sz xs)= .list sz xs:=rfl
@[simp]theorem d2J{g:AV->AV}{xs:List (List IV)}:Ob.ZQ g (.YU id sz xs)= .YU id sz xs:=rfl
@[simp]theorem d3J{g:AV->AV}{sk h}:Ob.ZQ g (.map sk h)= .map sk h:=rfl
@[simp]theorem d4J{g:AV->AV}{sk h n k}:Ob.ZQ g (.WT sk h n k)= .WT sk h n k:=rfl
@[simp]theorem d5J{g:AV->AV}{sk h k}:Ob.ZQ g (.YJ sk sz h k)= .YJ sk sz h k:=rfl
@[simp]theorem d6J{g:AV->AV}{sk h l k}:Ob.ZQ g (.iter sk h l k)= .iter sk h l k:=rfl
end
def gone(id:Nat)(o:Ob)(x:AV):AV:=(x.fc id o).kc (· ==id)
def FG(off:Nat):Option (List IV)->AV
 |some l=> .iv (.pt (l.drop off))
 |none=> .junk
def NT(id:Nat)(o:Ob):List (Nat×AV)->List (Nat×AV)
 | []=>[]
 |(t,x)::r=>(t,x.ZQ (gone id o))::NT id o r
def QQ(id:Nat)(o:Ob):Hp->Hp
 | []=>[]
 |(j,q)::r=>if j=id then QQ id o r else(j,q.ZQ (gone id o))::QQ id o r
def J2(id:Nat)(fr:List (Nat×AV))(hp:Hp):Option Ob->St
 |none=>⟨fr,hp⟩
 |some o=>⟨NT id o fr,QQ id o hp⟩
section
variable{id:Nat}{o:Ob}
@[simp]theorem f7G{off:Nat}{l:List IV}:FG off (some l)= .iv (.pt (l.drop off)):=rfl
@[simp]theorem f8G{off:Nat}:FG off none= .junk:=rfl
@[simp]theorem f0q:NT id o []=[]:=rfl
@[simp]theorem d7J{t:Nat}{x:AV}{r:List (Nat×AV)}:NT id o ((t,x)::r)=(t,x.ZQ (gone id o))::NT id o r:=rfl
@[simp]theorem f1q:QQ id o []=[]:=rfl
@[simp]theorem d8J{j:Nat}{q:Ob}{r:Hp}:QQ id o ((j,q)::r)=if j=id then QQ id o r else(j,q.ZQ (gone id o))::QQ id o r:=rfl
@[simp]theorem f9G{fr:List (Nat×AV)}{hp:Hp}:J2 id fr hp none=⟨fr,hp⟩:=rfl
@[simp]theorem f0H{fr:List (Nat×AV)}{hp:Hp}:J2 id fr hp (some o)=⟨NT id o fr,QQ id o hp⟩:=rfl
theorem d9J(fr:List (Nat×AV)):NT id o fr=fr.map fun(t,x)=>(t,x.ZQ fun x=>(x.fc id o).kc (· ==id)):=by
 induction fr with
 |nil=>rfl
 |cons p r ih=>obtain⟨t,x⟩:=p;simp only[NT,a0G,ih];rfl
theorem d0K(hp:Hp):QQ id o hp=(hp.map fun(t,x)=>(t,x.ZQ fun x=>(x.fc id o).kc (· ==id))).filter (·.1 != id):=by
 induction hp with
 |nil=>rfl
 |cons p r ih=>
  obtain⟨t,x⟩:=p;simp only[QQ,a0G,a0V,ih]
  by_cases h:t=id
  ·simp[h]
  ·simp[h];rfl
@[simp]theorem drop_mk{fr:List (Nat×AV)}{hp:Hp}:St.drop id ⟨fr,hp⟩=J2 id fr hp (look hp id):=by
 simp only[St.drop]
 cases look hp id with
 |none=>rfl
 |some o=>simp only[J2,d9J,d0K];rfl
@[simp]theorem d1K{x:IV}:gone id o (.iv x)= .iv x:=rfl
@[simp]theorem f2q{sz:Nat}:gone id o (.nil sz)= .nil sz:=rfl
@[simp]theorem f1H:gone id o .un= .un:=rfl
@[simp]theorem d2K:gone id o .junk= .junk:=rfl
@[simp]theorem f2H{f:FuncId}{a b:List Z3}:gone id o (.fn f a b)=AV.kc (· ==id) (.fn f (a.map (Z3.fc id o)) (b.map (Z3.fc id o))):=rfl
@[simp]theorem d3K{x:IV}:Z3.fc id o (.val x)= .val x:=rfl
def e9R(j off:Nat):Option (List IV)->Z3
 |some l=> .val (.pt (l.drop off))
 |none=> .ptr j off
@[simp]theorem f8Z{j off:Nat}{l:List IV}:e9R j off (some l)= .val (.pt (l.drop off)):=rfl
@[simp]theorem f9Z{j off:Nat}:e9R j off none= .ptr j off:=rfl
@[simp]theorem d4K{cs:List AV}{j off:Nat}:Z3.fc id (.box cs) (.ptr j off)=if j=id then e9R j off (SM cs)else .ptr j off:=by
 simp only[Z3.fc];split
 ·cases SM cs<;>rfl
 ·rfl
@[simp]theorem d5K{cs:List AV}{j YK lo len:Nat}:gone id (.box cs) (.sl j YK lo len)=if j=id then .junk else .sl j YK lo len:=by
 by_cases h:j=id<;>simp[gone,AV.fc,h]
@[simp]theorem d6K{cs:List AV}{j YK i off:Nat}:gone id (.box cs) (.ep j YK i off)=if j=id then .junk else .ep j YK i off:=by
 by_cases h:j=id<;>simp[gone,AV.fc,h]
@[simp]theorem d7K{cs:List AV}{j:Nat}:gone id (.box cs) (.mpr j)=if j=id then .junk else .mpr j:=by
 by_cases h:j=id<;>simp[gone,AV.fc,h]
@[simp]theorem d8K{cs:List AV}{j off:Nat}:gone id (.box cs) (.ptr j off)=if j=id then FG off (SM cs)else .ptr j off:=by
 by_cases h:j=id<;>simp[gone,AV.fc,h]
 cases SM cs<;>simp
@[simp]theorem d9K{sz:Nat}{xs:List (List IV)}{j off:Nat}:Z3.fc id (.list sz xs) (.ptr j off)= .ptr j off:=by
 simp only[Z3.fc,ite_self]
@[simp]theorem d0L{sz:Nat}{xs:List (List IV)}{j YK lo len:Nat}:gone id (.list sz xs) (.sl j YK lo len)=if j=id then .iv (.Z6 YK ((xs.drop lo).take len))else .sl j YK lo len:=by
 by_cases h:j=id<;>simp[gone,AV.fc,h]
@[simp]theorem d1L{sz:Nat}{xs:List (List IV)}{j:Nat}:gone id (.list sz xs) (.mpr j)=if j=id then .junk else .mpr j:=by
 by_cases h:j=id<;>simp[gone,AV.fc,h]
@[simp]theorem d2L{sz:Nat}{xs:List (List IV)}{j off:Nat}:gone id (.list sz xs) (.ptr j off)=if j=id then .junk else .ptr j off:=by
 by_cases h:j=id<;>simp[gone,AV.fc,h]
attribute [simp] d9B
@[simp]theorem d3L{Z:GZ}{vs:List Value}{cs:List AV}{j YK lo len:Nat}:gone id (.gh Z vs cs) (.sl j YK lo len)=if j=id then .junk else .sl j YK lo len:=by
 by_cases h:j=id<;>simp[gone,AV.fc,h]
@[simp]theorem d4L{Z:GZ}{vs:List Value}{cs:List AV}{j:Nat}:gone id (.gh Z vs cs) (.mpr j)=if j=id then .junk else .mpr j:=by
 by_cases h:j=id<;>simp[gone,AV.fc,h]
@[simp]theorem d5L{Z:GZ}{vs:List Value}{cs:List AV}{j off:Nat}:gone id (.gh Z vs cs) (.ptr j off)=if j=id then .junk else .ptr j off:=by
 by_cases h:j=id<;>simp[gone,AV.fc,h]
@[simp]theorem d6L{sk:Sk}{g:List Value->Option (List IV)}{j YK lo len:Nat}:gone id (.map sk g) (.sl j YK lo len)=if j=id then .junk else .sl j YK lo len:=by
 by_cases h:j=id<;>simp[gone,AV.fc,h]
@[simp]theorem d7L{sk:Sk}{g:List Value->Option (List IV)}{j:Nat}:gone id (.map sk g) (.mpr j)=if j=id then .iv (.mp sk g)else .mpr j:=by
 by_cases h:j=id<;>simp[gone,AV.fc,h]
@[simp]theorem d8L{sk:Sk}{g:List Value->Option (List IV)}{j off:Nat}:gone id (.map sk g) (.ptr j off)=if j=id then .junk else .ptr j off:=by
 by_cases h:j=id<;>simp[gone,AV.fc,h]
@[simp]theorem d9L{sk:Sk}{g:List Value->Option (List IV)}{left:List (List Value)}{last:Option (List Value)}{j:Nat}:gone id (.iter sk g left last) (.mpr j)=if j=id then .junk else .mpr j:=by
 by_cases h:j=id<;>simp[gone,AV.fc,h]
@[simp]theorem d0M{sk:Sk}{g:List Value->Option (List IV)}{left:List (List Value)}{last:Option (List Value)}{j off:Nat}:gone id (.iter sk g left last) (.ptr j off)=if j=id then .junk else .ptr j off:=by
 by_cases h:j=id<;>simp[gone,AV.fc,h]
end
section
variable{s:St}{id:Nat}{fr:List (Nat×AV)}{hp:Hp}
@[simp]theorem d1M{z:List AV}{off n:Nat}{x:Operand}{r:List (Nat×Nat×Operand)}:Fo s z ((off,n,x)::r)=(s.ev x).cellsOf.bind fun cs=>if cs.length=n/\off+n<=z.length then Fo s (Zc z off cs) r else none:=by
 simp only[Fo]
 cases (s.ev x).cellsOf<;>rfl
@[simp]theorem d2M{sz i:Nat}{x:Operand}{r:List (Nat×Operand)}:RQ s sz ((i,x)::r)=((s.ev x).cellsOf.bind fun cs=>Zm AV.iv? cs).bind fun c=>if c.length=sz then(RQ s sz r).map fun q=>c::q else none:=by
 simp only[RQ,Ej]
 cases ((s.ev x).cellsOf.bind fun cs=>Zm AV.iv? cs)<;>rfl
@[simp]theorem d3M{α:Type}{z cs:List α}{off:Nat}:Zc z off cs=z.take off++cs++z.drop (off+cs.length):=rfl
@[simp]theorem g0a{o:Ob}:St.add ⟨fr,hp⟩ id o=⟨fr,(id,o)::hp⟩:=rfl
@[simp]theorem f3H{H:Hp}:St.join ⟨fr,hp⟩ H=⟨fr,H++hp⟩:=rfl
@[simp]theorem g6n{d:Nat}{x:AV}:St.put ⟨fr,hp⟩ (some d) x=⟨(d,x)::fr,hp⟩:=rfl
@[simp]theorem g7n{x:AV}:St.put ⟨fr,hp⟩ none x=⟨fr,hp⟩:=rfl
@[simp]theorem f4H{t:Nat}:St.get ⟨fr,hp⟩ t=(look fr t).getD .junk:=rfl
def qP(id:Nat):List (Nat×AV)->List (Nat×AV)
 | []=>[]
 |(t,x)::r=>(t,x.ZQ (AV.kc (· ==id)))::qP id r
def loH(id:Nat):Hp->Hp
 | []=>[]
 |(t,x)::r=>(t,x.ZQ (AV.kc (· ==id)))::loH id r
def tQ(id:Nat):Hp->Hp
 | []=>[]
 |(t,x)::r=>if t=id then tQ id r else(t,x.ZQ (AV.kc (· ==id)))::tQ id r
@[simp]theorem f5H:qP id []=[]:=rfl
@[simp]theorem f3q{t:Nat}{x:AV}{r:List (Nat×AV)}:qP id ((t,x)::r)=(t,x.ZQ (AV.kc (· ==id)))::qP id r:=rfl
@[simp]theorem f6H:loH id []=[]:=rfl
@[simp]theorem f4q{t:Nat}{x:Ob}{r:Hp}:loH id ((t,x)::r)=(t,x.ZQ (AV.kc (· ==id)))::loH id r:=rfl
@[simp]theorem f7H:tQ id []=[]:=rfl
@[simp]theorem f5q{t:Nat}{x:Ob}{r:Hp}:tQ id ((t,x)::r)=if t=id then tQ id r else(t,x.ZQ (AV.kc (· ==id)))::tQ id r:=rfl
theorem d4M(fr:List (Nat×AV)):qP id fr=fr.map fun(t,x)=>(t,x.ZQ (AV.kc (· ==id))):=by
 induction fr with
 |nil=>rfl
 |cons p r ih=>obtain⟨t,x⟩:=p;simp only[qP,a0G,ih]
theorem d5M(fr:Hp):loH id fr=fr.map fun(t,x)=>(t,x.ZQ (AV.kc (· ==id))):=by
 induction fr with
 |nil=>rfl
 |cons p r ih=>obtain⟨t,x⟩:=p;simp only[loH,a0G,ih]
theorem d6M(fr:Hp):tQ id fr=(fr.map fun(t,x)=>(t,x.ZQ (AV.kc (· ==id)))).filter (·.1 != id):=by
 induction fr with
 |nil=>rfl
 |cons p r ih=>
  obtain⟨t,x⟩:=p;simp only[tQ,a0G,a0V,ih]
  by_cases h:t=id<;>simp[h]
@[simp]theorem f8H:St.lone id ⟨fr,hp⟩=⟨qP id fr,loH id hp⟩:=by
 simp only[St.lone,St.ZQ,d4M,d5M]
@[simp]theorem f9H:St.kill id ⟨fr,hp⟩=⟨qP id fr,tQ id hp⟩:=by
 simp only[St.kill,St.ZQ,d4M,d6M]
end
@[simp]theorem d7M{i:Nat}:SG i []=[]:=rfl
@[simp]theorem d8M{i:Nat}{x:AV}{r:List AV}:SG i (x::r)=(i,x)::SG (i+1) r:=rfl
def wL(sz lo len:Nat):Option Ob->Option IV
 |some (.list _ xs)=>some (.Z6 sz ((xs.drop lo).take len))
 |some (.ZI ZB xs none)=>some (.Z6 1 (((xs.map fun x=>[IV.Z6 ZB x]).drop lo).take len))
 | _=>none
def wM:Option Ob->Option IV
 |some (.map sk g)=>some (.mp sk g)
 |some (.YJ sk sz g none)=>some (.mp sk fun k=>(g k).map fun xs=>[IV.Z6 sz xs])
 | _=>none
def wB(off:Nat)(f:List AV->Option (List IV)):Option Ob->Option IV
 |some (.box cs)=>(f cs).map fun l=> .pt (l.drop off)
 | _=>none
def IV.or(y:Option IV)(x:AV):AV:=match y with|some y=> .iv y|none=>x
def IV.orC(y:Option IV)(x:Z3):Z3:=match y with|some y=> .val y|none=>x
section
variable{s:St}{ids:List Nat}{d id sz lo len i off:Nat}{x:IV}{cs:List AV}{f:FuncId}{a b:List Z3}{fr:Bool}
@[simp]theorem f0I{z:Nat}{xs:List (List IV)}:wL sz lo len (some (.list z xs))=some (.Z6 sz ((xs.drop lo).take len)):=rfl
@[simp]theorem f6q{z:Nat}{xs:List (List (List IV))}:wL sz lo len (some (.ZI z xs none))=some (.Z6 1 (((xs.map fun x=>[IV.Z6 z x]).drop lo).take len)):=rfl
@[simp]theorem g1a{sk g}:wM (some (.map sk g))=some (.mp sk g):=rfl
@[simp]theorem f1I{sk g}:wM (some (.YJ sk sz g none))=some (.mp sk fun k=>(g k).map fun xs=>[IV.Z6 sz xs]):=rfl
@[simp]theorem g2a{g:List AV->Option (List IV)}:wB off g (some (.box cs))=(g cs).map fun l=> .pt (l.drop off):=rfl
@[simp]theorem g5p{y:IV}{x:AV}:IV.or (some y) x= .iv y:=rfl
@[simp]theorem g6p{x:AV}:IV.or none x=x:=rfl
@[simp]theorem g8n{y:IV}{x:Z3}:IV.orC (some y) x= .val y:=rfl
@[simp]theorem g9n{x:Z3}:IV.orC none x=x:=rfl
@[simp]theorem g3a:s.WE ids d (.iv x)=some x:=by cases d<;>rfl
@[simp]theorem f2I:s.WE ids d (.nil sz)=some (.Z6 sz []):=by cases d<;>rfl
@[simp]theorem g4a:s.WE ids d (.sl id sz lo len)=if ids.contains id then none else wL sz lo len (look s.hp id):=by cases d<;>rfl
@[simp]theorem f3I:s.WE ids d (.mpr id)=if ids.contains id then none else wM (look s.hp id):=by cases d<;>rfl
@[simp]theorem f7q:s.WE ids 3 (.ptr id off)=if ids.contains id then none else wB off (fun cs=>Zm (s.WE ids 2) cs) (look s.hp id):=rfl
@[simp]theorem f8q:s.WE ids 2 (.ptr id off)=if ids.contains id then none else wB off (fun cs=>Zm (s.WE ids 1) cs) (look s.hp id):=rfl
@[simp]theorem f9q:s.WE ids 1 (.ptr id off)=if ids.contains id then none else wB off (fun cs=>Zm (s.WE ids 0) cs) (look s.hp id):=rfl
@[simp]theorem d9M:Zm (s.WE ids d) (.iv x::cs)=(Zm (s.WE ids d) cs).map fun l=>x::l:=by simp[Zm]
@[simp]theorem d0N:Zm (s.WE ids d) (.sl id sz lo len::cs)=(s.WE ids d (.sl id sz lo len)).bind fun y=>(Zm (s.WE ids d) cs).map fun l=>y::l:=by
 simp only[Zm];cases s.WE ids d (.sl id sz lo len)<;>rfl
@[simp]theorem d1N:Zm (s.WE ids d) (.mpr id::cs)=(s.WE ids d (.mpr id)).bind fun y=>(Zm (s.WE ids d) cs).map fun l=>y::l:=by
 simp only[Zm];cases s.WE ids d (.mpr id)<;>rfl
@[simp]theorem d2N:Zm (s.WE ids d) (.ptr id off::cs)=(s.WE ids d (.ptr id off)).bind fun y=>(Zm (s.WE ids d) cs).map fun l=>y::l:=by
 simp only[Zm];cases s.WE ids d (.ptr id off)<;>rfl
@[simp]theorem d3N{l:List IV}:Zm (s.WE ids d) (l.map .iv)=some l:=by
 induction l with
 |nil=>rfl
 |cons x l ih=>simp[ih]
@[simp]theorem f4I:Z3.EN s ids (.ptr id off)=IV.orC (s.WE ids 3 (.ptr id off)) (.ptr id off):=by
 simp only[Z3.EN];cases s.WE ids 3 (.ptr id off)<;>rfl
@[simp]theorem f5I:Z3.EN s ids (.val x)= .val x:=rfl
@[simp]theorem d4N:Z3.Xq ids (.ptr id off)=ids.contains id:=rfl
@[simp]theorem d5N:Z3.Xq ids (.val x)=true:=rfl
@[simp]theorem d6N:AV.Xq ids (.iv x)=true:=rfl
@[simp]theorem f6I:AV.Xq ids (.nil sz)=true:=rfl
@[simp]theorem g5a:AV.Xq ids (.sl id sz lo len)=ids.contains id:=rfl
@[simp]theorem f7I:AV.Xq ids (.ptr id off)=ids.contains id:=rfl
@[simp]theorem g6a:AV.Xq ids (.ep id sz i off)=ids.contains id:=rfl
@[simp]theorem f8I:AV.Xq ids (.mpr id)=ids.contains id:=rfl
@[simp]theorem g7a:AV.Xq ids (.fn f a b)=(a.all (Z3.Xq ids)&&b.all (Z3.Xq ids)):=rfl
@[simp]theorem f0r:AV.YO ids (.agg cs)=cs.all (AV.Xq ids):=rfl
@[simp]theorem f9I:AV.YO ids (.iv x)=true:=rfl
@[simp]theorem f1r:AV.YO ids (.nil sz)=true:=rfl
@[simp]theorem f0J:AV.YO ids (.sl id sz lo len)=ids.contains id:=rfl
@[simp]theorem f2r:AV.YO ids (.ptr id off)=ids.contains id:=rfl
@[simp]theorem f3r:AV.YO ids (.mpr id)=ids.contains id:=rfl
@[simp]theorem f1J:AV.YO ids (.fn f a b)=(a.all (Z3.Xq ids)&&b.all (Z3.Xq ids)):=rfl
@[simp]theorem f2J:s.arg1 fr ids (.iv x)= .iv x:=rfl
@[simp]theorem f4r:s.arg1 fr ids (.nil sz)= .iv (.Z6 sz []):=rfl
@[simp]theorem f3J:s.arg1 fr ids (.fn f a b)=if fr&& !((AV.fn f a b).Xq ids)then .fn f (a.map (Z3.EN s ids)) (b.map (Z3.EN s ids))else .fn f a b:=rfl
@[simp]theorem f4J:s.arg1 fr ids (.sl id sz lo len)=if fr&& !(ids.contains id)then IV.or (s.WE ids 3 (.sl id sz lo len)) (.sl id sz lo len)else .sl id sz lo len:=rfl
@[simp]theorem f5r:s.arg1 fr ids (.mpr id)=if fr&& !(ids.contains id)then IV.or (s.WE ids 3 (.mpr id)) (.mpr id)else .mpr id:=rfl
@[simp]theorem f6r:s.arg1 fr ids (.ptr id off)=if fr&& !(ids.contains id)then IV.or (s.WE ids 3 (.ptr id off)) (.ptr id off)else .ptr id off:=rfl
@[simp]theorem g8a:s.arg fr ids (.iv x)= .iv x:=rfl
@[simp]theorem f5J:s.arg fr ids (.nil sz)= .iv (.Z6 sz []):=rfl
@[simp]theorem g9a:s.arg fr ids (.fn f a b)=s.arg1 fr ids (.fn f a b):=rfl
@[simp]theorem g0b:s.arg fr ids (.sl id sz lo len)=s.arg1 fr ids (.sl id sz lo len):=rfl
@[simp]theorem f6J:s.arg fr ids (.mpr id)=s.arg1 fr ids (.mpr id):=rfl
@[simp]theorem f7J:s.arg fr ids (.ptr id off)=s.arg1 fr ids (.ptr id off):=rfl
@[simp]theorem f8J:s.arg fr ids (.agg cs)= .agg (cs.map (s.arg1 fr ids)):=rfl
@[simp]theorem g1b{pre:List Z3}{ops:List Operand}{post:List Z3}:s.args pre ops post=pre.map Z3.av++ops.map s.ev++post.map Z3.av:=rfl
end
@[simp]theorem d7N{id:Nat}{o:Ob}{l:List IV}:(l.map AV.iv).map (gone id o)=l.map AV.iv:=by
 induction l with
 |nil=>rfl
 |cons x l ih=>rw[a0G,a0G,ih,d1K]
@[simp]theorem d8N{p:Nat->Bool}{l:List IV}:(l.map AV.iv).map (AV.kc p)=l.map AV.iv:=by
 induction l with
 |nil=>rfl
 |cons x l ih=>rw[a0G,a0G,ih,f4p]
@[simp]theorem d9N{ids:List Nat}{l:List IV}:(l.map AV.iv).all (AV.Xq ids)=true:=by
 induction l with
 |nil=>rfl
 |cons x l ih=>rw[a0G,b4x,ih,d6N];rfl
@[simp]theorem d0O{l:List IV}:(l.map AV.iv).all AV.one=true:=by
 induction l with
 |nil=>rfl
 |cons x l ih=>rw[a0G,b4x,ih,d7F];rfl
attribute [simp ↓] d9D d1E d2E d3E d4E d6E d7E d8E
attribute [simp] St.lit St.pure1 St.pure St.ivOf at2 vtrue
@[simp]theorem a5H{α:Type}(l:List α)(i:Nat)(x:α):(l.getD i x)=(l[i]?).getD x:=rfl
theorem a6H{f:AV->AV}{s:St}{t:Nat}{x:IV}(hf:∀x,f (.iv x)= .iv x)(h:s.get t= .iv x):(s.ZQ f).get t= .iv x:=by
 simp only[St.get,St.ZQ]at h⊢;rw[c7H (AV.ZQ f)]
 cases hl:look s.fr t with
 |none=>rw[hl]at h;cases h
 |some y=>rw[hl]at h;simp only[a2L]at h;subst h;simp[AV.ZQ,hf]
theorem a7H{s:St}{t id:Nat}{x:IV}(h:s.get t= .iv x):(s.drop id).get t= .iv x:=by
 unfold St.drop;split
 ·exact h
 ·rename_i o _;exact a6H (f:=fun x=>(x.fc id o).kc (· ==id)) (fun _=>rfl) h
theorem qh(D:List Nat):∀{s:St} {t:Nat} {x:IV},s.get t= .iv x->(s.ZM D).get t= .iv x:=by
 induction D with
 |nil=>intro s t x h;exact h
 |cons i D ih=>intro s t x h;exact ih (a7H h)
theorem a9H{s:St}{id k:Nat}(h:look s.hp k=none):look (s.drop id).hp k=none:=by
 unfold St.drop;split
 ·exact h
 ·simp only[Iy,Ir,h,Option.map_none];split<;>rfl
theorem sf(D:List Nat):∀{s:St} {k:Nat},(k∈D\/look s.hp k=none)->look (s.ZM D).hp k=none:=by
 induction D with
 |nil=>
  intro s k h;rcases h with h|h; ·cases h
  ·exact h
 |cons i D ih=>
  intro s k h;refine ih (s:=s.drop i) ?_
  rcases h with h|h
  ·rcases a2E.1 h with rfl|h
   ·exact .inr (JY s k)
   ·exact .inl h
  ·exact .inr (a9H h)
theorem a1I{t:Nat}{x:IV}{s:St}(h:s.get t= .iv x)(hf:x.flat=true)(hb:(s.hp.map (·.1)).all (· <1000)=true):Ends true [.tmp t] (.iv x) [] s:=by
 refine⟨s.ZM (s.hp.map (·.1)),[.iv x],QZ _ hb s,?_,rfl,fun id=>?_,fun _=>⟨hf,fun _ _ h=>by cases h⟩⟩
 ·simp[V4,qh _ h]
 ·refine sf _ ?_
  cases hl:look s.hp id with
  |none=>exact .inr rfl
  |some o=>exact .inl (a0N.1 (Ep hl))
theorem Zu{P:Program}{d:Nat}{f:FuncId}{ops:List Operand}{s:St}{K:St->AV->Prop}{args:List AV}{res:AV}(h:ZU P true f args [] res [])
 (ha:(((s.drop d).args [] ops []).map ((s.drop d).arg true []))=args) (hr:args.all (AV.YO [])=true) (hk:K (s.drop d) res):NC P d f [] ops [] none s K:=by
 refine qg ⟨s,Le.refl s,true,[],res,[],s.drop d,rfl,trivial,{spec:=?_,refs:=?_,sub:=fun _ _ h=>?_,own:=fun _ _ h=>?_,keep:=fun _ _ h=>?_,new:=fun _ _ h=>?_},hk⟩
 all_goals first|(rw[a8U,ha];assumption)|cases h
def MB:Hp->Bool
 | []=>true
 |(i,_)::r=>decide (i<1000)&&MB r
@[simp]theorem a4I:MB []=true:=rfl
@[simp]theorem a5I{i:Nat}{o:Ob}{r:Hp}:MB ((i,o)::r)=(decide (i<1000)&&MB r):=rfl
theorem se:∀{h:Hp},MB h=true->(h.map (·.1)).all (· <1000)=true
 | [],_=>rfl
 |(i,_)::r,h=>by
  simp only[MB,a4C]at h;simp only[a0G,b4x,a4C];exact⟨h.1,se h.2⟩
def Iq:Hp->List Nat->Bool
 | [],_=>true
 |(i,_)::r,ks=>ks.contains i&&Iq r ks
@[simp]theorem a8I{ks:List Nat}:Iq [] ks=true:=rfl
@[simp]theorem a9I{i:Nat}{o:Ob}{r:Hp}{ks:List Nat}:Iq ((i,o)::r) ks=(ks.contains i&&Iq r ks):=rfl
theorem a0J:∀{h l:Hp},Iq h (l.map (·.1))=true->d0u h l=true
 | [],_,_=>rfl
 |(i,_)::r,l,h=>by
  simp only[Iq,a4C]at h;have h2:=a0J h.2;unfold d0u at h2⊢;simp only[b4x,a4C];refine⟨?_,h2⟩;have:=a0N.1 h.1;obtain⟨q,hq,e⟩:=a3E.1 this;exact b4o.2 ⟨q,hq,by simp[e]⟩
def JU:Hp->List Nat
 | []=>[]
 |(i,_)::r=>i::JU r
@[simp]theorem a2J:JU []=[]:=rfl
@[simp]theorem a3J{i:Nat}{o:Ob}{r:Hp}:JU ((i,o)::r)=i::JU r:=rfl
theorem a4J(h:Hp):JU h=h.map (·.1):=by
 induction h with
 |nil=>rfl
 |cons p r ih=>obtain⟨i,o⟩:=p;simp[ih]
def End1(t:Nat)(x:IV)(s:St):Prop:=s.get t= .iv x/\MB s.hp=true
def End2(t u:Nat)(x y:IV)(s:St):Prop:=s.get t= .iv x/\s.get u= .iv y/\MB s.hp=true
def outs(r:St->Prop):YC:=⟨r,fun _ _=>False,r,fun _ _=>False⟩
theorem MA{P:Program}{n:Nat}{c:Z9}{s:St}{r r':St->Prop}(h:VC P n c s (outs r))(hr:∀s,r s->r' s):VC P n c s (outs r'):=
 h.mono hr (fun _ _ h=>h) hr (fun _ _ h=>h)
theorem YD{P:Program}{f:FuncId}{args:List AV}{x:IV}{n t:Nat}{c:Z9}(hf:Zz P f=some (n,c,[.tmp t]))
 (YQ:args.length<=n) (hn:n<=999) (hx:x.flat=true) (h:X5 P c ⟨SG 0 args,[]⟩ ⟨End1 t x,fun _ _=>False,End1 t x,fun _ _=>False⟩):ZU P true f args [] (.iv x) []:=
 Ip hf YQ rfl rfl (MA (SZ hn _ _ _ h) fun _ h=>a1I h.1 hx (se h.2))
def LeTo(D:List Nat)(s s':St):Prop:=D.all (· <1000)=true/\NB (s.ZM D) s'.fr/\R6 (s.ZM D).hp s'.hp/\Iq (s.ZM D).hp (JU s'.hp)=true
theorem LeTo.le{D:List Nat}{s s':St}(h:LeTo D s s'):Le s s':=f4g D h.1 h.2.1 h.2.2.1 (a0J (by rw[<-a4J];exact h.2.2.2))
theorem Fi{P:Program}{c:Z9}{s:St}{O:YC}(I:Nat->St->Prop)(hi:∃k s',Le s s'/\I k s')
 (hs:∀k s',I k s'->X5 P c s' {O with n:=fun s2=>∃m s3,m<k/\Le s2 s3/\I m s3}):Fh P c s O:=⟨I,by obtain⟨k,s',h1,h2⟩:=hi;exact h1.x ⟨k,h2⟩,hs⟩
theorem a8J{P:Program}{c:Z9}{s:St}{O:YC}(I:Nat->St->Prop)(hi:Jk s fun s'=>∃k,I k s')
 (hs:∀k s',I k s'->X5 P c s' {O with n:=fun s2=>∃m s3,m<k/\Le s2 s3/\I m s3}):Fh P c s O:=⟨I,hi,hs⟩
theorem YZ{P:Program}{c:Z9}{s:St}{O:YC}(D D':List Nat)(n:Nat)(S:Nat->St)(Q:Nat->Prop)(h0:LeTo D s (S 0))(q0:Q 0)
 (hs:∀i,i<=n->Q i->X5 P c (S i) {O with n:=fun s2=>i<n/\LeTo D' s2 (S (i+1))/\Q (i+1)}):Fh P c s O:=by
 refine⟨fun k s=>∃i,i<=n/\k=n-i/\s=S i/\Q i,h0.le.x ⟨_,0,c4u _,rfl,rfl,q0⟩,?_⟩;rintro k s' ⟨i,hi,rfl,rfl,hq⟩;refine Eo c (O:={O with n:=fun s2=>i<n/\LeTo D' s2 (S (i+1))/\Q (i+1)}) (fun s2 h=>?_) (fun _ _ h=>h) (fun _ h=>h) (fun _ _ h=>h) (hs i hi hq);obtain⟨ZV,hle,V0⟩:=h
 exact⟨_,_,by omega,hle.le,i+1,ZV,rfl,rfl,V0⟩
@[simp]theorem a0K{s:St}:s.ZM []=s:=rfl
@[simp]theorem a1K{s:St}{i:Nat}{D:List Nat}:s.ZM (i::D)=(s.drop i).ZM D:=rfl
@[simp]theorem f5g{s:St}:NB s []↔True:=⟨fun h=>h,fun h=>h⟩
@[simp]theorem a2K{s:St}{t:Nat}{x:AV}{r:List (Nat×AV)}:NB s ((t,x)::r)↔s.get t=x/\NB s r:=⟨fun h=>h,fun h=>h⟩
@[simp]theorem f6g{H:Hp}:R6 H []↔True:=⟨fun h=>h,fun h=>h⟩
@[simp]theorem a3K{H:Hp}{t:Nat}{x:Ob}{r:Hp}:R6 H ((t,x)::r)↔look H t=some x/\R6 H r:=⟨fun h=>h,fun h=>h⟩
attribute [simp] End1 End2 LeTo
/-! ### Functions and calls that change what they are f8L-/
def Z3.hi:Z3->Bool
 | .ptr id _=>decide (1000<=id)
 | .val _=>true
def AV.hi:AV->Bool
 | .iv _| .nil _| .un| .junk=>true
 | .sl id _ _ _| .ptr id _| .ep id _ _ _| .mpr id=>decide (1000<=id)
 | .fn _ a b=>a.all Z3.hi&&b.all Z3.hi
 | .agg _| .Zp _=>false
def Ob.hi:Ob->Bool
 | .box cs=>cs.all AV.hi
 | .gh _ _ cs=>cs.all AV.hi
 | _=>true
@[simp]theorem f9L{Z:GZ}{vs:List Value}{cs:List AV}:Ob.hi (.gh Z vs cs)=cs.all AV.hi:=rfl
@[simp]theorem g7f{x:IV}:AV.hi (.iv x)=true:=rfl
@[simp]theorem f0M{sz:Nat}:AV.hi (.nil sz)=true:=rfl
@[simp]theorem f1M{id off:Nat}:AV.hi (.ptr id off)=decide (1000<=id):=rfl
@[simp]theorem f2M{id:Nat}:AV.hi (.mpr id)=decide (1000<=id):=rfl
@[simp]theorem g8f{id sz lo len:Nat}:AV.hi (.sl id sz lo len)=decide (1000<=id):=rfl
@[simp]theorem f3u{cs:List AV}:Ob.hi (.box cs)=cs.all AV.hi:=rfl
@[simp]theorem f7g{sz:Nat}{xs:List (List IV)}:Ob.hi (.list sz xs)=true:=rfl
@[simp]theorem f4u{sk g}:Ob.hi (.map sk g)=true:=rfl
@[simp]theorem f8g{sk sz g h}:Ob.hi (.YJ sk sz g h)=true:=rfl
theorem a4K{id:Nat}{o:Ob}(VF:id<1000){a:List Z3}(h:a.all Z3.hi=true):a.map (Z3.fc id o)=a/\a.any (Z3.of (· ==id))=false:=by
 induction a with
 |nil=>exact⟨rfl,rfl⟩
 |cons c a ih=>
  simp only[b4x,a4C]at h;obtain⟨i1,i2⟩:=ih h.2
  cases c with
  |ptr j off=>
   have hj:j≠id:=by have:=of_decide_eq_true h.1;omega
   refine⟨?_,?_⟩
   ·simp only[a0G,i1,Z3.fc,if_neg hj]
   ·simp only[c2H,i2,Z3.of,c5T,beq_eq_false_iff_ne];exact hj
  |val x=>exact⟨by simp only[a0G,i1,Z3.fc],by simp only[c2H,i2,Z3.of,c5T]⟩
theorem a5K{id:Nat}{o:Ob}(VF:id<1000){x:AV}(h:x.hi=true):gone id o x=x:=by
 cases x with
 |agg _=>cases h
 |Zp _=>cases h
 |fn f a b=>
  simp only[AV.hi,a4C]at h;obtain⟨a1,a2⟩:=a4K (o:=o) VF h.1;obtain⟨b1,b2⟩:=a4K (o:=o) VF h.2;simp only[gone,AV.fc,a1,b1,AV.kc,a2,b2,c5T,Bool.false_eq_true,if_false]
 |iv _=>rfl
 |nil _=>rfl
 |un=>rfl
 |junk=>rfl
 | _=>
  have hj:=of_decide_eq_true h;simp only[gone,AV.fc,AV.kc];rw[if_neg (by omega)];simp only[AV.kc];rw[if_neg (by simp only[beq_iff_eq];omega)]
theorem a6K{id:Nat}{o q:Ob}(VF:id<1000)(h:q.hi=true):q.ZQ (gone id o)=q:=by
 cases q with
 |box cs=>
  simp only[Ob.hi,a0E]at h;simp only[Ob.ZQ]
  congr 1
  exact b5s (fun x hx=>a5K VF (h x hx)) |>.trans (d2f _)
 |gh Z vs cs=>
  simp only[Ob.hi,a0E]at h;simp only[Ob.ZQ]
  congr 1
  refine(b5s fun x hx=>?_).trans (d2f _);have Vw:=h x hx
  have:AV.ZQ (gone id o) x=gone id o x:=by cases x<;>first|rfl|cases Vw
  rw[this];exact a5K VF Vw
 | _=>rfl
theorem a7K{s:St}{id k:Nat}{q:Ob}(VF:id<1000)(hk:1000<=k)(hq:q.hi=true)(h:look s.hp k=some q):look (s.drop id).hp k=some q:=by
 unfold St.drop;split
 ·exact h
 ·simp only[Iy,Ir,h,a4G];rw[if_neg (by omega)];exact congrArg some (a6K VF hq)
theorem a8K(D:List Nat)(hD:D.all (· <1000)=true):∀{s:St} {k:Nat} {q:Ob},1000<=k->q.hi=true->look s.hp k=some q->look (s.ZM D).hp k=some q:=by
 induction D with
 |nil=>intro s k q _ _ h;exact h
 |cons i D ih=>
  intro s k q hk hq h;simp only[b4x,a4C,decide_eq_true_eq]at hD;exact ih hD.2 hk hq (a7K hD.1 hk hq h)
def sd:Hp->Bool
 | []=>true
 |(i,o)::r=>decide (1000<=i)&&o.hi&&sd r
@[simp]theorem f5u:sd []=true:=rfl
@[simp]theorem f9g{i:Nat}{o:Ob}{r:Hp}:sd ((i,o)::r)=(decide (1000<=i)&&o.hi&&sd r):=rfl
def R5:Hp->List Nat->Bool
 | [],_=>true
 |(i,_)::r,ks=>(decide (i<1000)||ks.contains i)&&R5 r ks
@[simp]theorem f0h{ks:List Nat}:R5 [] ks=true:=rfl
@[simp]theorem a9K{i:Nat}{o:Ob}{r:Hp}{ks:List Nat}:R5 ((i,o)::r) ks=((decide (i<1000)||ks.contains i)&&R5 r ks):=rfl
theorem a0L{α:Type}{H:List (Nat×α)}{id:Nat}{o:α}(h:look H id=some o):id∈H.map (·.1):=a0N.1 (Ep h)
theorem a1L{s:St}{H':Hp}(h1:R6 s.hp H')(h2:R5 s.hp (JU H')=true)(h3:sd H'=true):
 ∃D:List Nat,D.all (· <1000)=true/\∀id,look (s.ZM D).hp id=look H' id:=by
 have Zt:((s.hp.map (·.1)).filter (· <1000)).all (· <1000)=true:=by simp
 have hhi:∀{H:Hp},sd H=true->∀id o,look H id=some o->1000<=id/\o.hi=true:=by
  intro H
  induction H with
  |nil=>intro _ id o h;cases h
  |cons p r ih=>
   obtain⟨i,q⟩:=p;intro h id o ho;simp only[sd,a4C,decide_eq_true_eq]at h;simp only[look]at ho;split at ho
   ·rename_i e;subst e;cases ho;exact h.1
   ·exact ih h.2 id o ho
 have Io:∀{H:Hp} {ks:List Nat},R5 H ks=true->∀id o,look H id=some o->id<1000\/id∈ks:=by
  intro H ks
  induction H with
  |nil=>intro _ id o h;cases h
  |cons p r ih=>
   obtain⟨i,q⟩:=p;intro h id o ho;simp only[R5,a4C,Bool.or_eq_true,decide_eq_true_eq]at h;simp only[look]at ho;split at ho
   ·rename_i e;subst e
    rcases h.1 with g|g
    ·exact .inl g
    ·exact .inr (a0N.1 g)
   ·exact ih h.2 id o ho
 refine⟨(s.hp.map (·.1)).filter (· <1000),Zt,fun id=>?_⟩
 cases hl:look H' id with
 |some o=>
  obtain⟨g1,g2⟩:=hhi h3 id o hl;exact a8K _ Zt g1 g2 (d9t h1 _ (Ez hl))
 |none=>
  refine sf _ ?_
  cases hs:look s.hp id with
  |none=>exact .inr rfl
  |some o=>
   left
   rcases Io h2 id o hs with g|g
   ·exact a0F.2 ⟨a0L hs,by simpa using g⟩
   ·rw[a4J]at g;obtain⟨q,hq⟩:=qe g;rw[hl]at hq;cases hq
def EndM(H':Hp)(s:St):Prop:=R6 s.hp H'/\R5 s.hp (JU H')=true/\sd H'=true
def EndM1(t:Nat)(x:IV)(H':Hp)(s:St):Prop:=s.get t= .iv x/\EndM H' s
attribute [simp] EndM EndM1
theorem sc{P:Program}{f:FuncId}{args:List AV}{H H':Hp}{n:Nat}{c:Z9}(hf:Zz P f=some (n,c,[]))
 (YQ:args.length<=n) (hn:n<=999) (UA:(H.map (·.1)).all (1000<= ·)=true) (Vr:((H++H').all fun p=> !p.2.Zl)=true)
 (h:X5 P c ⟨SG 0 args,H⟩ ⟨EndM H',fun _ _=>False,EndM H',fun _ _=>False⟩):ZU P false f args H (.Zp []) H':=
 Ip hf YQ UA Vr (MA (SZ hn _ _ _ h) fun s h=>by
  obtain⟨D,g1,g2⟩:=a1L h.1 h.2.1 h.2.2
  exact⟨s.ZM D,[],QZ D g1 s,rfl,rfl,g2,fun h=>by cases h⟩)
theorem a3L{P:Program}{f:FuncId}{args:List AV}{H H':Hp}{n t:Nat}{x:IV}{c:Z9}(hf:Zz P f=some (n,c,[.tmp t]))
 (YQ:args.length<=n) (hn:n<=999) (UA:(H.map (·.1)).all (1000<= ·)=true) (Vr:((H++H').all fun p=> !p.2.Zl)=true)
 (h:X5 P c ⟨SG 0 args,H⟩ ⟨EndM1 t x H',fun _ _=>False,EndM1 t x H',fun _ _=>False⟩):ZU P false f args H (.iv x) H':=
 Ip hf YQ UA Vr (MA (SZ hn _ _ _ h) fun s h=>by
  obtain⟨D,g1,g2⟩:=a1L h.2.1 h.2.2.1 h.2.2.2
  exact⟨s.ZM D,[.iv x],QZ D g1 s,by simp[V4,qh _ h.1],rfl,g2,fun h=>by cases h⟩)
def a4L:Hp->Hp->Prop
 | [],_=>True
 |(id,o)::r,H'=>(∃o',look H' id=some o'/\o.le o')/\a4L r H'
@[simp]theorem a5L{H':Hp}:a4L [] H'↔True:=⟨fun h=>h,fun h=>h⟩
@[simp]theorem a6L{id:Nat}{o:Ob}{r H':Hp}:a4L ((id,o)::r) H'↔(∃o',look H' id=some o'/\o.le o')/\a4L r H':=⟨fun h=>h,fun h=>h⟩
@[simp]theorem f3M{cs:List AV}{o:Ob}:(Ob.box cs).le o:=Ob.le_none rfl
@[simp]theorem g9f{Z:GZ}{vs:List Value}{cs:List AV}{o:Ob}:(Ob.gh Z vs cs).le o:=Ob.le_none rfl
@[simp]theorem f4M{sk g}{o:Ob}:(Ob.map sk g).le o:=Ob.le_none rfl
@[simp]theorem f1h{sk sz g h}{o:Ob}:(Ob.YJ sk sz g h).le o:=Ob.le_none rfl
theorem a7L:∀{H H':Hp},a4L H H'->∀id o,look H id=some o->∃o',look H' id=some o'/\o.le o'
 | [],_,_,id,o,h=>by cases h
 |(i,q)::r,H',h,id,o,ho=>by
  simp only[look]at ho;split at ho
  ·rename_i e;subst e;cases ho;exact h.1
  ·exact a7L h.2 id o ho
theorem a8L:∀{H:Hp} {ks:List Nat},Iq H ks=true->∀id o,look H id=some o->id∈ks
 | [],_,_,id,o,h=>by cases h
 |(i,q)::r,ks,h,id,o,ho=>by
  simp only[Iq,a4C]at h;simp only[look]at ho;split at ho
  ·rename_i e;subst e;exact a0N.1 h.1
  ·exact a8L h.2 id o ho
def qd:Hp->List Nat->Bool
 | [],_=>true
 |(_,o)::r,ks=>o.YO ks&&qd r ks
@[simp]theorem a0M{ks:List Nat}:qd [] ks=true:=rfl
@[simp]theorem a1M{i:Nat}{o:Ob}{r:Hp}{ks:List Nat}:qd ((i,o)::r) ks=(o.YO ks&&qd r ks):=rfl
@[simp]theorem f2h{ks:List Nat}{cs:List AV}:Ob.YO ks (.box cs)=cs.all (AV.Xq ks):=rfl
@[simp]theorem a2M{ks:List Nat}{sz:Nat}{xs:List (List IV)}:Ob.YO ks (.list sz xs)=true:=rfl
@[simp]theorem f3h{ks:List Nat}{sk g}:Ob.YO ks (.map sk g)=true:=rfl
@[simp]theorem a3M{ks:List Nat}{sk sz g h}:Ob.YO ks (.YJ sk sz g h)=true:=rfl
theorem a4M:∀{H:Hp} {ks:List Nat},qd H ks=true->∀id o,look H id=some o->o.YO ks=true
 | [],_,_,id,o,h=>by cases h
 |(i,q)::r,ks,h,id,o,ho=>by
  simp only[qd,a4C]at h;simp only[look]at ho;split at ho
  ·cases ho;exact h.1
  ·exact a4M h.2 id o ho
theorem TB{P:Program}{d:Nat}{f:FuncId}{pre post:List Z3}{ops:List Operand}{y:Option Operand}{s s1:St}{K:St->AV->Prop}{args:List AV}{res:AV}{H H':Hp}
 (h:ZU P false f args H res H') (EA:(s.Y9 ((s.args pre ops post).filter fun x=> !x.YO (JU H))).drop d=s1)
 (hy:∀z,y=some z->s1.ev z= .fn f pre post) (ha:(s1.args pre ops post).map (s1.arg false (JU H))=args) (hr:args.all (AV.YO (JU H))=true)
 (hs:R6 s1.hp H) (ho:qd H (JU H)=true) (hkp:a4L H H') (hn:Iq H' (JU H)=true) (hk:K (s1.join H') res):NC P d f pre ops post y s K:=by
 rw[a4J]at*;refine qg ⟨s,Le.refl s,false,H,res,H',s1,EA.symm,?_,{spec:=?_,refs:=?_,sub:=fun id o h=>d9t hs _ (Ez h),own:=a4M ho,keep:=a7L hkp,new:=fun id o h1 h2=>?_},hk⟩
 ·cases y with
  |none=>trivial
  |some z=>exact hy z rfl
 ·rw[ha];exact h
 ·rw[ha];exact hr
 ·have:=a8L hn id o h1;obtain⟨o',h'⟩:=qe this;rw[h2]at h';cases h'
theorem O8{P:Program}{d:Nat}{f:FuncId}{pre post:List Z3}{ops:List Operand}{z:Operand}{s:St}{K:St->AV->Prop}{args:List AV}{res:AV}(h:ZU P true f args [] res [])
 (hy:(s.drop d).ev z= .fn f pre post) (ha:(((s.drop d).args pre ops post).map ((s.drop d).arg true []))=args) (hr:args.all (AV.YO [])=true) (hk:K (s.drop d) res):NC P d f pre ops post (some z) s K:=by
 refine qg ⟨s,Le.refl s,true,[],res,[],s.drop d,rfl,hy,{spec:=?_,refs:=?_,sub:=fun _ _ h=>?_,own:=fun _ _ h=>?_,keep:=fun _ _ h=>?_,new:=fun _ _ h=>?_},hk⟩
 all_goals first|(rw[a8U,ha];assumption)|cases h
@[simp]theorem f6u{p:Nat->Bool}:AV.kc p∘AV.iv=AV.iv:=funext fun _=>by simp
@[simp]theorem a7M{id:Nat}{o:Ob}:gone id o∘AV.iv=AV.iv:=funext fun _=>by simp
end Go.Vm
end

section
namespace Go.Rt
open Go.Vm
abbrev ci(i:Int):IV:= .v (.int .i64 i)
abbrev cb(b:Bool):IV:= .v (.bool b)
abbrev vi(i:Int):AV:= .iv (ci i)
abbrev vb(b:Bool):AV:= .iv (cb b)
noncomputable def Yp(p:Prop):Bool:= @decide p (b7p p)
@[simp]theorem Rn{p:Prop}:Yp p=true↔p:=by unfold Yp;exact @decide_eq_true_iff p (b7p p)
@[simp]theorem NG{p:Prop}:Yp p=false↔¬p:=by unfold Yp;exact @decide_eq_false_iff_not p (b7p p)
theorem Tz{p:Prop}{b:Bool}:b=Yp p↔(b=true↔p):=by
 rw[b3S,Rn]
@[simp]theorem d5X{p:Prop}:true=Yp p↔p:=by rw[eq_comm,Rn]
@[simp]theorem d6X{p:Prop}:false=Yp p↔¬p:=by rw[eq_comm,NG]
def ZH(n:Nat)(p:Nat->Prop):Prop:=∀j,j<n->p j
@[simp]theorem Tn{p:Nat->Prop}:ZH 0 p:=fun _ h=>absurd h (Nat.not_lt_zero _)
theorem ZH.succ{n:Nat}{p:Nat->Prop}(h:ZH n p)(hp:p n):ZH (n+1) p:=fun j hj=>by
 rcases Nat.lt_or_ge j n with h1|h1
 ·exact h j h1
 ·have:j=n:=by omega
  subst this;exact hp
theorem Zw{α:Type}{l:List α}{i:Nat}(h:i<l.length):∃x,l[i]? =some x:=⟨_,a3I h⟩
theorem Zo{n:Int}(h: -(2^63)<=n/\n<2^63):IntKind.i64.wrap n=n:=by rw[IntKind.wrap_i64];omega
@[ext] structure Vl where
 text:Bool
 n:Int
 s:ByteArray
@[simp]def Vl.cells(v:Vl):List IV:=[cb v.text,ci v.n, .v (.string v.s)]
def Vl.zero:Vl:=⟨false,0,⟨#[]⟩⟩
abbrev Vl.av(v:Vl):AV:= .agg (v.cells.map .iv)
@[simp]theorem Vl.eta(v:Vl):Vl.mk v.text v.n v.s=v:=rfl
@[simp]theorem Vl.f9J(t:Bool)(n:Int)(s:ByteArray):(Vl.mk t n s).text=t:=rfl
@[simp]theorem Vl.g8p(t:Bool)(n:Int)(s:ByteArray):(Vl.mk t n s).n=n:=rfl
@[simp]theorem Vl.g9p(t:Bool)(n:Int)(s:ByteArray):(Vl.mk t n s).s=s:=rfl
abbrev Tb:=List Bool
def rq(l:List Bool):List (List IV):=l.map fun b=>[cb b]
def Wr(t:Tb):IV:= .Z6 1 (rq t)
def YS(t:Tb):AV:= .agg [.iv (Wr t)]
def Yj(l:List Int):List (List IV):=l.map fun i=>[ci i]
def XJ(l:List Int):IV:= .Z6 1 (Yj l)
def r9(r:List Vl):IV:= .Z6 3 (r.map Vl.cells)
@[simp]theorem d4Y(l:List Bool):(rq l).length=l.length:=by simp[rq]
@[simp]theorem d5Y(l:List Bool)(i:Nat):(rq l)[i]? =(l[i]?).map fun b=>[cb b]:=by simp[rq]
@[simp]theorem d6Y(l:List Int):(Yj l).length=l.length:=by simp[Yj]
@[simp]theorem d7Y(l:List Int)(i:Nat):(Yj l)[i]? =(l[i]?).map fun b=>[ci b]:=by simp[Yj]
inductive Pd where
 |mk (op col:Int) (v w:Vl) (l:List Pd)
def Pd.op:Pd->Int
 | .mk o _ _ _ _=>o
def Pd.col:Pd->Int
 | .mk _ c _ _ _=>c
def Pd.v:Pd->Vl
 | .mk _ _ v _ _=>v
def Pd.w:Pd->Vl
 | .mk _ _ _ w _=>w
def Pd.l:Pd->List Pd
 | .mk _ _ _ _ l=>l
mutual
def Pd.cells:Pd->List IV
 | .mk o c v w l=>[ci o,ci c,cb v.text,ci v.n, .v (.string v.s),cb w.text,ci w.n, .v (.string w.s), .Z6 9 (Pd.Rq l)]
def Pd.Rq:List Pd->List (List IV)
 | []=>[]
 |p::r=>p.cells::Pd.Rq r
end
theorem Pd.Rp:∀l:List Pd,Pd.Rq l=l.map Pd.cells
 | []=>by simp[Pd.Rq]
 |p::r=>by simp[Pd.Rq,Pd.Rp r]
theorem Pd.Z8(p:Pd):p.cells=[ci p.op,ci p.col,cb p.v.text,ci p.v.n, .v (.string p.v.s),cb p.w.text,ci p.w.n, .v (.string p.w.s), .Z6 9 (p.l.map Pd.cells)]:=by
 cases p with|mk o c v w l=>rw[Pd.cells,Pd.Rp];rfl
def Pd.av(p:Pd):AV:= .agg (p.cells.map .iv)
theorem Pd.Z4(p:Pd):p.av= .agg [.iv (ci p.op), .iv (ci p.col), .iv (cb p.v.text), .iv (ci p.v.n), .iv (.v (.string p.v.s)), .iv (cb p.w.text), .iv (ci p.w.n), .iv (.v (.string p.w.s)), .iv (.Z6 9 (p.l.map Pd.cells))]:=by
 unfold Pd.av;rw[Pd.Z8];rfl
inductive Pd.Ok:Pd->Prop where
 |mk (p:Pd) (h:p.l.length<2^63) (hv:p.v.s.size<2^63) (hw:p.w.s.size<2^63) (hl:∀q,q∈p.l->q.Ok):p.Ok
mutual
def Pd.size:Pd->Int
 | .mk _ _ _ _ l=>1+Pd.sizes l
def Pd.sizes:List Pd->Int
 | []=>0
 |p::r=>p.size+Pd.sizes r
end
theorem Pd.size_eq(p:Pd):p.size=1+Pd.sizes p.l:=by cases p;rw[Pd.size];rfl
@[simp]theorem Pd.f9f:Pd.sizes []=0:=by rw[Pd.sizes]
theorem Pd.Ni{l:List Pd}{i:Nat}{p:Pd}(h:l[i]? =some p):Pd.sizes (l.take (i+1))=Pd.sizes (l.take i)+p.size:=by
 induction l generalizing i with
 |nil=>cases h
 |cons q r ih=>
  cases i with
  |zero=>simp only[a9E,a5y]at h;subst h;simp[Pd.sizes]
  |succ i=>
   simp only[a2I]at h;simp only[List.take_succ_cons,Pd.sizes,ih h];omega
theorem d8Y(a b:Int):IntKind.i64.wrap (IntKind.i64.wrap a+IntKind.i64.wrap b)=IntKind.i64.wrap (a+b):=by
 simp only[IntKind.wrap_i64];omega
theorem d9Y(a b:Int):IntKind.i64.wrap (IntKind.i64.wrap a+b)=IntKind.i64.wrap (a+b):=by
 simp only[IntKind.wrap_i64];omega
end Go.Rt
end

section
namespace Go.Vm
@[simp]theorem f2v{s:St}:s.ev (.const (.slice none 0 0))= .nil 0:=rfl
theorem e4p{s:St}{id k:Nat}(h:k∈(s.drop id).hp.map (·.1)):k∈s.hp.map (·.1):=by
 obtain⟨o,ho⟩:=qe h
 cases hs:look s.hp k with
 |none=>rw[a9H hs]at ho;cases ho
 |some o'=>exact a0L hs
theorem e5p(D:List Nat):∀{s:St} {k:Nat},k∈(s.ZM D).hp.map (·.1)->k∈s.hp.map (·.1):=by
 induction D with
 |nil=>intro s k h;exact h
 |cons i D ih=>intro s k h;exact e4p (ih h)
def EndD(D:List Nat)(t:Nat)(x:IV)(s:St):Prop:=D.all (· <1000)=true/\(s.ZM D).get t= .iv x/\MB s.hp=true
attribute [simp] EndD
theorem e6p{P:Program}{f:FuncId}{args:List AV}{x:IV}{n t:Nat}{c:Z9}(D:List Nat)(hf:Zz P f=some (n,c,[.tmp t]))
 (YQ:args.length<=n) (hn:n<=999) (h:X5 P c ⟨SG 0 args,[]⟩ ⟨EndD D t x,fun _ _=>False,EndD D t x,fun _ _=>False⟩):ZU P false f args [] (.iv x) []:=
 Ip hf YQ rfl rfl (MA (SZ hn _ _ _ h) fun s h=>by
  have hk:((s.ZM D).hp.map (·.1)).all (· <1000)=true:=by
   rw[a0E];intro k hk;exact a0E.1 (se h.2.2) k (e5p D hk)
  refine⟨(s.ZM D).ZM ((s.ZM D).hp.map (·.1)),[.iv x],(QZ D h.1 s).trans (QZ _ hk _),?_,rfl,fun id=>?_,fun h=>by cases h⟩
  ·simp[V4,qh _ h.2.1]
  ·refine sf _ ?_
   cases hl:look (s.ZM D).hp id with
   |none=>exact .inr rfl
   |some o=>exact .inl (a0N.1 (Ep hl)))
theorem e7p{s:St}{t id j sz lo len:Nat}(hj:id≠j)(h:s.get t= .sl j sz lo len):(s.drop id).get t= .sl j sz lo len:=by
 unfold St.drop;split
 ·exact h
 ·simp only[St.get,St.ZQ]at h⊢;rw[c7H (AV.ZQ _)]
  cases hl:look s.fr t with
  |none=>rw[hl]at h;cases h
  |some y=>
   rw[hl]at h;simp only[a2L]at h;subst h;simp only[a4G,a2L,AV.ZQ,AV.fc];rw[if_neg (Ne.symm hj)];simp only[AV.kc];rw[if_neg (by simpa using Ne.symm hj)]
theorem e8p{s:St}{id j sz:Nat}{xs:List (List IV)}(hj:id≠j)(h:look s.hp j=some (.list sz xs)):look (s.drop id).hp j=some (.list sz xs):=by
 unfold St.drop;split
 ·exact h
 ·simp only[Iy,Ir,h,a4G];rw[if_neg (Ne.symm hj)];rfl
theorem e9p(D:List Nat):∀{s:St} {t j sz len:Nat} {xs:List (List IV)},j∉D->s.get t= .sl j sz 0 len->look s.hp j=some (.list sz xs)->(s.ZM D).get t= .sl j sz 0 len/\look (s.ZM D).hp j=some (.list sz xs):=by
 induction D with
 |nil=>intro s t j sz len xs _ h1 h2;exact⟨h1,h2⟩
 |cons i D ih=>
  intro s t j sz len xs hj h1 h2
  have Xo:i≠j:=fun e=>hj (by simp[e])
  exact ih (fun h=>hj (a2C _ h)) (e7p Xo h1) (e8p Xo h2)
def EndN(j sz t:Nat)(xs:List (List IV))(s:St):Prop:=s.get t= .sl j sz 0 xs.length/\look s.hp j=some (.list sz xs)/\MB s.hp=true
attribute [simp] EndN
theorem e0q{P:Program}{f:FuncId}{args:List AV}{n t:Nat}{c:Z9}(j sz:Nat)(xs:List (List IV))(hf:Zz P f=some (n,c,[.tmp t]))
 (YQ:args.length<=n) (hn:n<=999) (hx:∀x∈xs,∀y∈x,y.flat=true) (h:X5 P c ⟨SG 0 args,[]⟩ ⟨EndN j sz t xs,fun _ _=>False,EndN j sz t xs,fun _ _=>False⟩):
 ZU P true f args [] (.sl j sz 0 xs.length) [(j, .list sz xs)]:=
 Ip hf YQ rfl rfl (MA (SZ hn _ _ _ h) fun s h=>by
  obtain⟨h1,h2,h3⟩:=h
  let D:=(s.hp.map (·.1)).filter (· ≠j)
  have hD:D.all (· <1000)=true:=by
   rw[a0E];intro k hk;exact a0E.1 (se h3) k (a0F.1 hk).1
  have hj:j∉D:=fun hk=>by have:=(a0F.1 hk).2;simp at this
  obtain⟨g1,g2⟩:=e9p D hj h1 h2;refine⟨s.ZM D,[.sl j sz 0 xs.length],QZ D hD s,by simp[V4,g1],rfl,fun id=>?_,fun _=>⟨rfl,fun id o ho=>?_⟩⟩
  ·simp only[look]
   by_cases e:j=id
   ·subst e;rw[if_pos rfl];exact g2
   ·rw[if_neg e];refine sf _ ?_
    cases hl:look s.hp id with
    |none=>exact .inr rfl
    |some o=>exact .inl (a0F.2 ⟨a0L hl,by simpa using Ne.symm e⟩)
  ·simp only[look]at ho;split at ho
   ·cases ho;exact hx
   ·cases ho)
theorem ZU.fresh{P:Program}{f:FuncId}{args:List AV}{j sz n:Nat}{xs:List (List IV)}(h:ZU P true f args [] (.sl j sz 0 n) [(j, .list sz xs)])(d:Nat)
 (hs:args.all AV.W7=true) (ha:∀ρ:Nat->Nat,args.map (AV.Zk ρ)=args):ZU P true f args [] (.sl d sz 0 n) [(d, .list sz xs)]:=by
 have:=h.Zk (Ren.swap j d) (by simp[hs,AV.W7,AV.VM,AV.Vv,Ob.W7]);rw[ha]at this
 have e:(Ren.swap j d).to j=d:=by simp[Ren.swap,sn]
 simpa[Hp.Zk,AV.Zk,AV.V7,AV.V8,Ob.Zk,e]using this
theorem e1q{P:Program}{d:Nat}{f:FuncId}{ops:List Operand}{s:St}{K:St->AV->Prop}{args:List AV}{sz n:Nat}{xs:List (List IV)}(h:ZU P true f args [] (.sl d sz 0 n) [(d, .list sz xs)])(hd:d<1000)
 (ha:(((s.drop d).args [] ops []).map ((s.drop d).arg true []))=args) (hr:args.all (AV.YO [])=true) (hk:K ((s.drop d).join [(d, .list sz xs)]) (.sl d sz 0 n)):NC P d f [] ops [] none s K:=by
 refine qg ⟨s,Le.refl s,true,[], .sl d sz 0 n,[(d, .list sz xs)],s.drop d,rfl,trivial,{spec:=?_,refs:=?_,sub:=fun _ _ h=>?_,own:=fun _ _ h=>?_,keep:=fun _ _ h=>?_,new:=fun id o h1 _=>?_},hk⟩
 ·rw[a8U,ha];exact h
 ·rw[a8U,ha];exact hr
 ·cases h
 ·cases h
 ·cases h
 ·simp only[look]at h1;split at h1
  ·rename_i e;subst e;exact⟨JY s d,hd⟩
  ·cases h1
theorem b1v{s:St}{t id j off:Nat}(hj:id≠j)(h:s.get t= .ptr j off):(s.drop id).get t= .ptr j off:=by
 unfold St.drop;split
 ·exact h
 ·simp only[St.get,St.ZQ]at h⊢;rw[c7H (AV.ZQ _)]
  cases hl:look s.fr t with
  |none=>rw[hl]at h;cases h
  |some y=>
   rw[hl]at h;simp only[a2L]at h;subst h;simp only[a4G,a2L,AV.ZQ,AV.fc]
   first
   |rfl
   |(simp[Ne.symm hj,AV.kc];done)
   |(split<;>simp_all[AV.kc])
theorem b2v{s:St}{id j:Nat}{cs:List IV}(hj:id≠j)(h:look s.hp j=some (.box (cs.map .iv))):look (s.drop id).hp j=some (.box (cs.map .iv)):=by
 unfold St.drop;split
 ·exact h
 ·rename_i o' _;simp only[Iy,Ir,h,a4G];rw[if_neg (Ne.symm hj)];simp only[Ob.ZQ,b6S,a5y,Ob.box.injEq]
  refine b5s fun a _=>?_
  exact congrFun (a7M (id:=id) (o:=o')) a
theorem b3v(D:List Nat):∀{s:St} {t j off:Nat} {cs:List IV},j∉D->s.get t= .ptr j off->look s.hp j=some (.box (cs.map .iv))->(s.ZM D).get t= .ptr j off/\look (s.ZM D).hp j=some (.box (cs.map .iv)):=by
 induction D with
 |nil=>intro s t j off cs _ h1 h2;exact⟨h1,h2⟩
 |cons i D ih=>
  intro s t j off cs hj h1 h2
  have Xo:i≠j:=fun e=>hj (by simp[e])
  exact ih (fun h=>hj (a2C _ h)) (b1v Xo h1) (b2v Xo h2)
def EndC(D:List Nat)(t j:Nat)(cs:List IV)(s:St):Prop:=D.all (· <1000)=true/\(s.ZM D).get t= .ptr j 0/\look (s.ZM D).hp j=some (.box (cs.map .iv))/\MB s.hp=true
attribute [simp] EndC
theorem c9c{s:St}{g:Nat}{Z Z':GZ}(hg:look s.hp g=some (.gh Z [] []))(hz:∀A B w,Z A B w->Z' A B w):Le s (s.add g (.gh Z' [] [])):=by
 rintro E n a w ⟨ψ,h⟩
 have lk:∀{id o},look (s.add g (.gh Z' [] [])).hp id=some o->(id=g/\o= .gh Z' [] [])\/(id≠g/\look s.hp id=some o):=by
  intro id o ho;rw[WX]at ho
  by_cases e:g=id
  ·subst e;rw[if_pos rfl]at ho;cases ho;exact .inl ⟨rfl,rfl⟩
  ·rw[if_neg e]at ho;exact .inr ⟨Ne.symm e,ho⟩
 have old:∀{id o},look (s.add g (.gh Z' [] [])).hp id=some o->∃o',look s.hp id=some o'/\o'.org id=o.org id/\o'.multi=o.multi:=by
  intro id o ho
  rcases lk ho with⟨rfl,rfl⟩|⟨_,h⟩
  ·exact⟨_,hg,rfl,rfl⟩
  ·exact⟨o,h,rfl,rfl⟩
 have Vu:∀b,ZD ψ (s.add g (.gh Z' [] [])).hp b->ZD ψ s.hp b:=by
  rintro b ⟨id,o,ho,hb⟩;obtain⟨o',h1,_⟩:=old ho;exact⟨id,o',h1,hb⟩
 have hI:∀b,b<w.heap.size->Im E ψ s.hp b->Im E ψ (s.add g (.gh Z' [] [])).hp b:=fun b _ hb=>⟨hb.1,fun hh=>hb.2 (Vu b hh)⟩
 have hk:Vt ψ ψ s.hp (s.add g (.gh Z' [] [])).hp:=by
  intro id o ho;refine⟨?_,rfl⟩
  by_cases e:g=id
  ·subst e;rw[hg]at ho;cases ho;exact⟨_,by rw[WX,if_pos rfl],Ob.le_none rfl⟩
  ·exact⟨o,by rw[WX,if_neg e];exact ho,o.le_refl⟩
 refine⟨ψ,{size:=h.size,defers:=h.defers.mono hI (fun _ _ _=>rfl),frame:=fun t=>(h.frame t).mono hI (fun _ _ _=>rfl) hk,YH:=fun id o ho=>?_,inj:=fun id XP o o' b q1 q2=>?_,own:=fun id o b ho hb=>?_,Y0:=fun id o b ho hb=>?_,par:=h.par,old:=h.old,grow:=h.grow,same:=h.same}⟩
 ·rcases lk ho with⟨rfl,rfl⟩|⟨_,ho⟩
  ·obtain⟨q1,q2,_,_⟩:=h.YH id _ hg;have Ou:=q2.mono hI (fun _ h=>h) (fun _ _ _=>rfl) (fun _ _=>rfl);exact⟨q1,fun A' B' w' k1 k2 k3 k4=>hz _ _ _ (Ou A' B' w' k1 k2 k3 k4),rfl,by simp⟩
  ·exact(h.YH id o ho).mono hI (fun _ _ _=>rfl) hk ⟨rfl,fun _ h=>h⟩ (fun _ _=>rfl)
 ·obtain⟨o1,g1,_⟩:=old q1;obtain⟨o2,g2,_⟩:=old q2;exact h.inj id XP o1 o2 b g1 g2
 ·obtain⟨o1,g1,g2,_⟩:=old ho;rw[<-g2];exact h.own id o1 b g1 hb
 ·obtain⟨o1,g1,_,g3⟩:=old ho;rw[<-g3];exact h.Y0 id o1 b g1 hb
def f2k(Ze:GZ)(s:St):Prop:=∃Z,look s.hp 1000=some (.gh Z [] [])/\(∀A B w,Z A B w->Ze A B w)/\R5 s.hp [1000]=true
theorem c0d{P:Program}{f:FuncId}{args:List AV}{Z0 Ze:GZ}{n:Nat}{c:Z9}(hf:Zz P f=some (n,c,[]))(YQ:args.length<=n)(hn:n<=999)
 (h:X5 P c ⟨SG 0 args,[(1000, .gh Z0 [] [])]⟩ ⟨f2k Ze,fun _ _=>False,f2k Ze,fun _ _=>False⟩):ZU P false f args [(1000, .gh Z0 [] [])] (.Zp []) [(1000, .gh Ze [] [])]:=
 Ip hf YQ rfl rfl (MA (SZ hn _ _ _ h) fun s h=>by
  obtain⟨Z,h1,h2,h3⟩:=h;obtain⟨D,g1,g2⟩:=a1L (H':=[(1000, .gh Z [] [])]) (s:=s) ⟨h1,trivial⟩ h3 rfl
  have g3:look (s.ZM D).hp 1000=some (.gh Z [] []):=by rw[g2];rfl
  refine⟨(s.ZM D).add 1000 (.gh Ze [] []),[],(QZ D g1 s).trans (c9c g3 h2),rfl,rfl,fun id=>?_,fun h=>by cases h⟩;rw[WX]
  by_cases e:1000=id
  ·subst e;simp[look]
  ·rw[if_neg e,g2];simp[look,e])
theorem c1d{P:Program}{l g:Nat}{Z Z':GZ}{b:Bool}{xs:List AV}{ops:List Operand}{s:St}{K:St->AV->Prop}(hy:rI P l xs Z b Z')(hg:look s.hp g=some (.gh Z [] []))
 (Oc:ops.map s.ev=xs) (UN:xs.all AV.plain=true) (hk:K (s.join [(g, .gh Z' [] [])]) (.iv (.v (.bool b)))):a7R P l ops s K:=⟨s,g,Z,b,Z',xs,Le.refl s,hg,⟨Oc,UN⟩,hy,hk⟩
theorem c2d{P:Program}{g:Operand}{ps:List Nat}{X Y:Z9}{s:St}{O:YC}(D D':List Nat)(r:Nat)(fr:List (Nat×AV))(I:List (List AV)->Prop)(H:List (List AV)->Hp)
 {f:FuncId} {caps:List IV} {Ul:List (List AV)->List AV->Prop} {S:List (List AV)->Prop} (Wk:rJ P f caps Ul S) (h0:LeTo D s ⟨fr,H []⟩) (hg:St.ev ⟨fr,H []⟩ g= .fn f [] (caps.map Z3.val)) (ZY:XI P f=true)
 (hr:r<1000) (EZ:look (H []) r=none) (WA:(fr.map (·.1)).Nodup) (hlen:∀pre x,Ul pre x->x.length=ps.length) (hI:I [])
 (WN:∀vs pre x,I pre->Ul pre x->I (pre++[x])/\X5 P X (UU ps x ⟨fr,(r, .gh ZT vs (X0 fr))::H pre⟩)
  ⟨fun s'=>X5 P Y s' ⟨fun s2=>LeTo D' s2 ⟨[],(r, .gh ZT vs (X0 fr))::H (pre++[x])⟩,fun _ _=>False,fun _=>False,fun _ _=>False⟩,fun _ _=>False,fun _=>False,fun _ _=>False⟩)
 (Nc:∀vs xs,I xs->S xs->O.n ⟨fr,(r, .gh ZT vs (X0 fr))::H xs⟩):Hy P g ps X Y s O:=by
 refine⟨f,caps,Ul,S,r,fr,I,H,fun _ _=>true,fun _ _=>[],⟨h0.le,hg,ZY,Wk,hr,EZ,WA,hlen,hI⟩,fun vs pre x q1 q2 _=>⟨(WN vs pre x q1 q2).1,?_⟩,fun _ _ _ _ _ h=>(by cases h),fun vs xs q1 q2=>⟨_,Le.refl _,Nc vs xs q1 q2⟩⟩;refine Eo X ?_ ?_ ?_ ?_ (WN vs pre x q1 q2).2
 ·intro s h;refine Eo Y ?_ ?_ ?_ ?_ h
  ·exact fun s2 h=>h.le
  ·exact fun _ _ h=>h
  ·exact fun _ h=>h
  ·exact fun _ _ h=>h
 ·exact fun _ _ h=>h
 ·exact fun _ h=>h
 ·exact fun _ _ h=>h
def GC(t:Nat)(R:AV->Hp->Prop)(s:St):Prop:=∃(D:List Nat) (x:AV) (H':Hp),R x H'/\LeTo D s ⟨[(t,x)],H'⟩
theorem c3d{P:Program}{f:FuncId}{args:List AV}{n t:Nat}{c:Z9}(R:AV->Hp->Prop)(hf:Zz P f=some (n,c,[.tmp t]))(YQ:args.length<=n)(hn:n<=999)
 (hR:∀x H',R x H'->(∀id o,look H' id=some o->o.Zl=false)/\(∀cs,x≠ .Zp cs))
 (h:X5 P c ⟨SG 0 args,[]⟩ ⟨GC t R,fun _ _=>False,GC t R,fun _ _=>False⟩):Ng P false f args [] R:=
 d2Z hf YQ rfl rfl (fun x H' h=>(hR x H' h).1) (MA (SZ hn _ _ _ h) fun s h=>by
  obtain⟨D,x,H',h1,h2⟩:=h
  exact⟨⟨[(t,x)],H'⟩,[x],H',h2.le,by simp[V4,St.get,look],h1,fun _=>rfl,fun h=>by cases h⟩)
theorem c4d{P:Program}{f:FuncId}{args:List AV}{n t:Nat}{c:Z9}(R:AV->Hp->Prop)(hf:Zz P f=some (n,c,[.tmp t]))(YQ:args.length<=n)(hn:n<=999)
 (hR:∀x H',R x H'->(∀id o,look H' id=some o->o.Zl=false/\o.flat)/\x.flat=true)
 (h:X5 P c ⟨SG 0 args,[]⟩ ⟨GC t R,fun _ _=>False,GC t R,fun _ _=>False⟩):Ng P true f args [] R:=
 d2Z hf YQ rfl rfl (fun x H' h id o ho=>((hR x H' h).1 id o ho).1) (MA (SZ hn _ _ _ h) fun s h=>by
  obtain⟨D,x,H',h1,h2⟩:=h
  exact⟨⟨[(t,x)],H'⟩,[x],H',h2.le,by simp[V4,St.get,look],h1,fun _=>rfl,fun _=>⟨(hR x H' h1).2,fun id o ho=>((hR x H' h1).1 id o ho).2⟩⟩)
attribute [simp] c2L
theorem c5d{P:Program}{d:Nat}{f:FuncId}{ops:List Operand}{s:St}{K:St->AV->Prop}{args:List AV}{R:AV->Hp->Prop}(h:Ng P true f args [] R)
 (ha:c2L (s.drop d) true [] ((s.drop d).args [] ops []) args) (hr:args.all (AV.YO [])=true)
 (Hg:∀x H',R x H'->∀id o,look H' id=some o->look (s.drop d).hp id=none/\id<1000) (hk:∀x H',R x H'->K ((s.drop d).join H') x):NC P d f [] ops [] none s K:=
 ⟨s,Le.refl s,true,[],R,s.drop d,rfl,trivial,args,ha,{spec:=h,refs:=hr,sub:=fun _ _ h=>(by cases h),own:=fun _ _ h=>(by cases h),keep:=fun _ _ _ _ _ h=>(by cases h),new:=fun x H' hR id o h1 _=>Hg x H' hR id o h1},hk⟩
theorem Yk{P:Program}{d:Nat}{f:FuncId}{ops:List Operand}{s s1:St}{K:St->AV->Prop}{args:List AV}{res:AV}{H':Hp}(h:ZU P false f args [] res H')
 (EA:(s.Y9 ((s.args [] ops []).filter fun x=> !x.YO [])).drop d=s1)
 (ha:((s1.args [] ops []).map (s1.arg false []))=args) (hr:args.all (AV.YO [])=true) (hn:Iq H' (H'.map (·.1))=true) (hf:H'.all (fun p=>decide (p.1<1000)&&(look s1.hp p.1).isNone)=true)
 (hk:K (s1.join H') res):NC P d f [] ops [] none s K:=by
 refine qg ⟨s,Le.refl s,false,[],res,H',s1,EA.symm,trivial,{spec:=?_,refs:=?_,sub:=fun _ _ h=>?_,own:=fun _ _ h=>?_,keep:=fun _ _ h=>?_,new:=fun id o h1 _=>?_},hk⟩
 ·rw[a8U];rw[ha];exact h
 ·rw[a8U];rw[ha];exact hr
 ·cases h
 ·cases h
 ·cases h
 ·have:=a0E.1 hf _ (Ez h1);simp only[a4C,decide_eq_true_eq,Option.isNone_iff_eq_none]at this;exact⟨this.2,this.1⟩
theorem e9m{s:St}{t:Nat}{y:IV}(h:(s.get t).Xj=some y):Le s (s.set t (.iv y)):=by
 rintro E n a w ⟨ψ,hs⟩;refine⟨ψ,{hs with frame:=fun u=>?_}⟩;rw[St.Xd];split
 ·rename_i e;subst e;exact .iv _ _ (d8C (hs.frame t) h (fun _ _ h=>h))
 ·exact hs.frame u
def YR(D:List Nat)(t:Nat)(x:IV)(s:St):Prop:=D.all (· <1000)=true/\((s.ZM D).get t).Xj=some x/\MB s.hp=true
theorem TK{P:Program}{f:FuncId}{args:List AV}{x:IV}{n t:Nat}{c:Z9}(hf:Zz P f=some (n,c,[.tmp t]))
 (YQ:args.length<=n) (hn:n<=999) (h:X5 P c ⟨SG 0 args,[]⟩ ⟨fun s=>∃D,YR D t x s,fun _ _=>False,fun s=>∃D,YR D t x s,fun _ _=>False⟩):ZU P false f args [] (.iv x) []:=
 Ip hf YQ rfl rfl (MA (SZ hn _ _ _ h) fun s h=>by
  obtain⟨D,h1,h2,h3⟩:=h
  have hk:(((s.ZM D).set t (.iv x)).hp.map (·.1)).all (· <1000)=true:=by
   show((s.ZM D).hp.map (·.1)).all (· <1000)=true
   rw[a0E];intro k hk;exact a0E.1 (se h3) k (e5p D hk)
  refine⟨((s.ZM D).set t (.iv x)).ZM (((s.ZM D).set t (.iv x)).hp.map (·.1)),[.iv x],((QZ D h1 s).trans (e9m h2)).trans (QZ _ hk _),?_,rfl,fun id=>?_,fun h=>by cases h⟩
  ·simp[V4,qh _ (show((s.ZM D).set t (.iv x)).get t= .iv x by rw[St.Xd,if_pos rfl])]
  ·refine sf _ ?_
   cases hl:Vm.look ((s.ZM D).set t (.iv x)).hp id with
   |none=>exact .inr rfl
   |some o=>exact .inl (a0N.1 (Ep hl)))
def JG(D:List Nat)(t u:Nat)(x y:IV)(s:St):Prop:=D.all (· <1000)=true/\((s.ZM D).get t).Xj=some x/\(s.ZM D).get u= .iv y/\MB s.hp=true
theorem e9q{P:Program}{f:FuncId}{args:List AV}{x y:IV}{n t u:Nat}{c:Z9}(htu:t≠u)(hf:Zz P f=some (n,c,[.tmp t, .tmp u]))
 (YQ:args.length<=n) (hn:n<=999) (h:X5 P c ⟨SG 0 args,[]⟩ ⟨fun s=>∃D,JG D t u x y s,fun _ _=>False,fun s=>∃D,JG D t u x y s,fun _ _=>False⟩):ZU P false f args [] (.Zp [.iv x, .iv y]) []:=
 Ip hf YQ rfl rfl (MA (SZ hn _ _ _ h) fun s h=>by
  obtain⟨D,h1,h2,h4,h3⟩:=h
  have hk:(((s.ZM D).set t (.iv x)).hp.map (·.1)).all (· <1000)=true:=by
   show((s.ZM D).hp.map (·.1)).all (· <1000)=true
   rw[a0E];intro k hk;exact a0E.1 (se h3) k (e5p D hk)
  refine⟨((s.ZM D).set t (.iv x)).ZM (((s.ZM D).set t (.iv x)).hp.map (·.1)),[.iv x, .iv y],((QZ D h1 s).trans (e9m h2)).trans (QZ _ hk _),?_,rfl,fun id=>?_,fun h=>by cases h⟩
  ·simp[V4,qh _ (show((s.ZM D).set t (.iv x)).get t= .iv x by rw[St.Xd,if_pos rfl]),qh _ (show((s.ZM D).set t (.iv x)).get u= .iv y by rw[St.Xd,if_neg (by first|exact htu|exact Ne.symm htu)];exact h4)]
  ·refine sf _ ?_
   cases hl:Vm.look ((s.ZM D).set t (.iv x)).hp id with
   |none=>exact .inr rfl
   |some o=>exact .inl (a0N.1 (Ep hl)))
theorem o9{P:Program}{d:Nat}{f:FuncId}{pre post:List Z3}{ops:List Operand}{y:Option Operand}{s s':St}{K:St->AV->Prop}(h:Le s s')
 (k:NC P d f pre ops post y s' K):NC P d f pre ops post y s K:=by
 obtain⟨s2,h2,h3⟩:=k;exact⟨s2,h.trans h2,h3⟩
end Go.Vm
end

section
namespace Go.Vm
open Go.Sort (Holds putRow grow putCells mapBlock)
def UR(l:List Int):List (List IV):=l.map fun i=>[.v (.int .i64 i)]
def Uk(l:List Int):List Int:=l.mergeSort fun x y=>decide (x<=y)
theorem c5K{l:List Int}{i j:Nat}{c:IV}(h:at2 (UR l) i j=some c):j=0/\∃n,l[i]? =some n/\c= .v (.int .i64 n):=by
 unfold at2 UR at h;rw[a0C]at h
 cases hl:l[i]? with
 |none=>rw[hl]at h;simp at h
 |some n=>
  rw[hl]at h;simp only[a4G,Option.bind_some]at h
  cases j with
  |zero=>simp at h;exact⟨rfl,n,rfl,h.symm⟩
  |succ j=>simp at h
theorem c6K{l:List Int}{i:Nat}{n:Int}(h:l[i]? =some n):at2 (UR l) i 0=some (.v (.int .i64 n)):=by
 unfold at2 UR;rw[a0C,h];rfl
theorem c7K{A:Nat->Prop}{w:World}{n:Int}{v:Value}(h:YB A w (.v (.int .i64 n)) v):v= .int .i64 n:=by cases h;rfl
theorem c8K{P:Program}{f:FuncId}(F:List Int->List Int)(hF:∀l,(F l).length=l.length)(hF0:F []=[])
 (hs:∀(R8 off cap:Nat) (zs:List Int) (w:World),Holds (Value.int .i64) w R8 off zs.toArray->R8<w.heap.size->zs.length<4611686018427387904->
  Calls P f #[.slice (some ⟨R8,off,none⟩) zs.length cap] w fun e w'=>e= .returned (.tuple #[])/\∃n os,w'=grow (putRow (Value.int .i64) (Go.Sort.ahead w n) R8 off (F zs).toArray) os)
 (hn:∀(p:Option Addr) (cap:Nat) (w:World),Calls P f #[.slice p 0 cap] w fun e w'=>e= .returned (.tuple #[])/\w'=w)
 (xs:List Int) (hl:xs.length<2^62):ZU P false f [.sl 1000 1 0 xs.length] [(1000, .list 1 (UR xs))] (.Zp []) [(1000, .list 1 (UR (F xs)))]:=by
 have hlen:(F xs).length=xs.length:=hF xs
 have WK:∀{o:Ob} {id:Nat} {q:Ob},look [(1000,o)] id=some q->id=1000/\q=o:=by
  intro o id q h;simp only[look]at h;split at h
  ·exact⟨by omega,by cases h;rfl⟩
  ·cases h
 refine⟨⟨fun id o h=>by obtain⟨_,rfl⟩:=WK h;rfl,fun id o h=>by obtain⟨_,rfl⟩:=WK h;rfl⟩,?_⟩
 intro A ψ w vs hA Uh hinj Ue Vu LD Q7;have ho:=Uh 1000 (.list 1 (UR xs)) rfl;have hr:=Q7 0 _ rfl
 obtain⟨v,rfl⟩:∃v,vs=[v]:=by
  match vs,LD with
  | [v],_=>exact⟨v,rfl⟩
 simp only[List.getD_eq_getElem?_getD,a9E,a2L]at hr
 have key:∀(w':World),w.heap.size<=w'.heap.size->RJ w w'->(∀b,b<w.heap.size->¬ZD ψ [(1000, .list 1 (UR xs))] b->w'.heap[b]? =w.heap[b]?)->
  Xa (fun b=>((false=false/\A b)\/w.heap.size<=b)/\¬ZD ψ [(1000, .list 1 (UR (F xs)))] b) ψ [(1000, .list 1 (UR (F xs)))] w' 1000 (.list 1 (UR (F xs)))->
  ∃v ZF,(Ending.returned (.tuple #[]):Ending)= .returned v∧
  (∀b,b<w.heap.size->¬ZD ψ [(1000, .list 1 (UR xs))] b->w'.heap[b]? =w.heap[b]?)/\w.heap.size<=w'.heap.size/\RJ w w'∧
  (∀id o,look [(1000,Ob.list 1 (UR xs))] id=some o->ZF.main id=ψ id)∧
  (∀id o b,look [(1000,Ob.list 1 (UR (F xs)))] id=some o->Z2 ZF id b->(∃o0,look [(1000,Ob.list 1 (UR xs))] id=some o0/\Z2 ψ id b)\/w.heap.size<=b)∧
  (∀id XP o o' b,look [(1000,Ob.list 1 (UR (F xs)))] id=some o->look [(1000,Ob.list 1 (UR (F xs)))] XP=some o'->Z2 ZF id b->Z2 ZF XP b->id=XP)/\Uv ZF [(1000, .list 1 (UR (F xs)))] w'∧
  (∀id o,look [(1000,Ob.list 1 (UR (F xs)))] id=some o->Xa (fun b=>((false=false/\A b)\/w.heap.size<=b)/\¬ZD ZF [(1000, .list 1 (UR (F xs)))] b) ZF [(1000, .list 1 (UR (F xs)))] w' id o)∧
  ZK (fun b=>((false=false/\A b)\/w.heap.size<=b)/\¬ZD ZF [(1000, .list 1 (UR (F xs)))] b) ZF [(1000, .list 1 (UR (F xs)))] w' (.Zp []) v:=by
  intro w' h1 h2 h3 h4;refine⟨.tuple #[],ψ,rfl,h3,h1,h2,fun _ _ _=>rfl,fun id o b h hb=> .inl ?_,fun id XP o o' b h h' _ _=>?_,fun id o b h hb=>?_,fun id o h=>?_, .Zp [] #[] rfl (fun i c h=>by simp at h)⟩
  ·obtain⟨rfl,rfl⟩:=WK h;exact⟨.list 1 (UR xs),rfl,hb⟩
  ·obtain⟨rfl,_⟩:=WK h;obtain⟨rfl,_⟩:=WK h';rfl
  ·obtain⟨rfl,rfl⟩:=WK h;have:=(Ue 1000 (.list 1 (UR xs)) b rfl hb).1;cases this
  ·obtain⟨rfl,rfl⟩:=WK h;exact h4
 obtain⟨UY,ho⟩:=ho
 by_cases hx:xs=[]
 ·subst hx
  have hv:∃p cap,v= .slice p 0 cap:=by
   cases hr with
   |U4=>exact⟨_,_,rfl⟩
   |sl=>exact⟨_,_,rfl⟩
  obtain⟨p,cap,rfl⟩:=hv;refine(hn p cap w).mono ?_;rintro e w' ⟨rfl,rfl⟩;refine key w' (a8F _) ⟨rfl,rfl,rfl,a8F _⟩ (fun _ _ _=>rfl) ?_;have hso:F []=[]:=hF0;rw[hso];refine⟨UY,?_⟩
  rcases ho with⟨g1,g2⟩|⟨b,k,c,e,g1,g2,g3,g4,g5⟩
  ·exact .inl ⟨g1,g2⟩
  ·exact .inr ⟨b,k,c,e,g1,g2,g3,g4,fun i j x h=>by simp[at2,UR]at h⟩
 ·have Yy:=a6I.2 hx
  rcases ho with⟨_,g2⟩|⟨b,k,c,e,g1,g2,g3,g4,g5⟩
  ·exact absurd (by simpa[UR]using g2) hx
  ·obtain⟨cap,rfl⟩:∃cap,v= .slice (some ⟨b,k.1,none⟩) xs.length cap:=by
    generalize hlx:xs.length=n at hr Yy
    cases hr with
    |U4=>omega
    |sl id sz lo len b' k' cap a o n' XQ he hxx hb ha UO hk hm=>
     rw[g1]at hb;cases hb;have:=ha (by omega);rw[Nat.zero_mul,b1P]at this;subst this;exact⟨cap,rfl⟩
   have DY:b<w.heap.size:=VJ g2;have hB:ZD ψ [(1000, .list 1 (UR xs))] b:=⟨1000, .list 1 (UR xs),rfl, .inl ⟨k,g1⟩⟩
   have OU:∀i n,xs[i]? =some n->c[k.1+i]? =some (.int .i64 n):=by
    intro i n hi;have h5:=c7K (g5 i 0 _ (c6K hi));have Zb:=(a7y.1 hi).1
    have hcs:k.1+i<c.size:=by simp only[UR,a6S]at g4;omega
    rw[Nat.mul_one,b1P]at h5;rw[a4E,a2S hcs]at h5;rw[a2S hcs];exact congrArg some h5
   have hH:Holds (Value.int .i64) w b k.1 xs.toArray:=by
    intro j hj;simp only[b8S]at hj;have Qv:=a3I hj;constructor
    ·simp only[World.cell?,g2];rw[OU j _ Qv];simp[hj]
    ·simp only[World.frozen?,g2];simp
   refine(hs b k.1 cap xs w hH DY (by omega)).mono ?_;rintro ex w' ⟨rfl,n,os,rfl⟩
   have Yd:(putRow (Value.int .i64) (Go.Sort.ahead w n) b k.1 (F xs).toArray).heap.size=w.heap.size:=by simp[putRow,mapBlock,Go.Sort.ahead]
   have M3:∀i,i≠b->i<w.heap.size->(grow (putRow (Value.int .i64) (Go.Sort.ahead w n) b k.1 (F xs).toArray) os).heap[i]? =w.heap[i]? :=by
    intro i hi ZV;rw[Go.Sort.heap_grow_old _ _ (by rw[Yd];exact ZV)];simp only[putRow,mapBlock,Go.Sort.ahead,a1Q];rw[if_neg (Ne.symm hi)]
   have Gi:(grow (putRow (Value.int .i64) (Go.Sort.ahead w n) b k.1 (F xs).toArray) os).heap[b]? =some (.cells (putCells (Value.int .i64) k.1 (F xs).toArray c) e (0,0)):=by
    rw[Go.Sort.heap_grow_old _ _ (by rw[Yd];exact DY)];simp only[putRow,mapBlock,Go.Sort.ahead,a1Q,if_true];rw[g2];rfl
   refine key _ (by rw[Go.Sort.size_grow,Yd];omega) ⟨rfl,rfl,rfl,d8z _ _⟩ (fun i hi hh=>M3 i (fun e=>hh (e▸hB)) hi) ?_;refine⟨fun x hxm=>?_, .inr ⟨b,k,_,e,g1,Gi,?_,?_,fun i j x h=>?_⟩⟩
   ·simp only[UR,a3E]at hxm;obtain⟨_,_,rfl⟩:=hxm;rfl
   ·simp only[putCells,c4H];exact g3
   ·simp only[UR,a6S]at g4⊢;omega
   ·obtain⟨rfl,m,hm,rfl⟩:=c5K h;have Zb:=(a7y.1 hm).1;rw[hlen]at Zb;simp only[UR,a6S]at g4
    have ZV:k.1+(i*1+0)<(putCells (Value.int .i64) k.1 (F xs).toArray c).size:=by simp only[putCells,c4H];omega
    have:(putCells (Value.int .i64) k.1 (F xs).toArray c).getD (k.1+(i*1+0)) undef= .int .i64 m:=by
     rw[a4E,a2S ZV,a2L];simp only[putCells,Array.getElem_mapIdx,b8S,hlen];rw[if_pos (by omega)]
     have e1:k.1+(i*1+0)-k.1=i:=by omega
     rw[e1];have:=hm;simp[List.getElem!_eq_getElem?_getD,this]
    rw[this];exact .v _ rfl
end Go.Vm
end

section
namespace Go.Vm
end Go.Vm
end

section
namespace Go.Vm
open Go.Sort (Holds putRow grow putCells mapBlock)
end Go.Vm
end

section
namespace Go.Rt
open Go.Vm
def S6{α:Type}(p:α->Bool)(l:List α):Int:=match l.findIdx? p with
 |some i=>i
 |none=> -1
theorem rO{α:Type}{p:α->Bool}{l:List α}{i:Nat}{e:α}(he:l[i]? =some e)(h:p e=true)(hn:ZH i fun j=>∀x,l[j]? =some x->p x=false):S6 p l=i:=by
 have:l.findIdx? p=some i:=by
  rw[c3H];have hl:=(a7y.1 he).1;have hg:=(a7y.1 he).2;refine⟨hl,by rw[hg];exact h,fun j hj=>?_⟩;have:=hn j hj l[j] (a3I (by omega));simpa using this
 unfold S6;rw[this]
theorem Ef{α:Type}{p:α->Bool}{l:List α}(hn:∀x,x∈l->p x=false):S6 p l= -1:=by
 have:l.findIdx? p=none:=by
  rw[c0T];exact hn
 unfold S6;rw[this]
theorem EY{α:Type}{l:List α}{i:Nat}{p:α->Prop}(hi:l.length<=i)(h:ZH i fun j=>∀x,l[j]? =some x->p x):∀x,x∈l->p x:=by
 intro x hx;obtain⟨j,hj⟩:=a9B hx;exact h j (by have:=(a7y.1 hj).1;omega) x hj
theorem c0C{α:Type}(p:α->Bool)(l:List α):(∃(i:Nat) (x:α),l[i]? =some x/\p x=true/\S6 p l=i/\∀j y,j<i->l[j]? =some y->p y=false)\/((∀x,x∈l->p x=false)/\S6 p l= -1):=by
 unfold S6
 cases h:l.findIdx? p with
 |none=>
  rw[c0T]at h;exact .inr ⟨h,rfl⟩
 |some i=>
  rw[c3H]at h;obtain⟨hl,h1,h2⟩:=h;refine .inl ⟨i,l[i],a3I hl,h1,rfl,fun j y hj hy=>?_⟩;have:=h2 j hj;have hy2:=(a7y.1 hy).2;rw[hy2]at this;simpa using this
theorem c1C{α:Type}(p:α->Bool)(l:List α):0<=S6 p l↔∃x,x∈l/\p x=true:=by
 rcases c0C p l with⟨i,x,h1,h2,h3,_⟩|⟨h1,h2⟩
 ·rw[h3];exact⟨fun _=>⟨x,a8y h1,h2⟩,fun _=>by omega⟩
 ·rw[h2];refine⟨fun h=>by omega,?_⟩;rintro⟨x,hx,hp⟩;rw[h1 x hx]at hp;cases hp
def Wm(l:List Int)(x:Int):Int:=S6 (fun y=>decide (x=y)) l
theorem c3C{l:List Int}{x:Int}:0<=Wm l x↔x∈l:=by
 unfold Wm;rw[c1C];constructor
 ·rintro⟨y,hy,h⟩;simp only[decide_eq_true_eq]at h;exact h▸hy
 ·exact fun h=>⟨x,h,by simp⟩
theorem c4C{l:List Int}{x:Int}{i:Nat}{e:Int}(he:l[i]? =some e)(h:x=e)(hn:ZH i fun j=>∀y,l[j]? =some y->¬x=y):Wm l x=i:=
 rO he (by simpa using h) fun j hj y hy=>by simpa using hn j hj y hy
theorem c5C{l:List Int}{x:Int}(hn:∀y,y∈l->¬x=y):Wm l x= -1:=Ef fun y hy=>by simpa using hn y hy
instance:DecidableEq Vl:=fun a b=>
 if h:a.text=b.text/\a.n=b.n/\a.s=b.s then .isTrue (by cases a;cases b;simp_all)else .isFalse (by rintro rfl;exact h ⟨rfl,rfl,rfl⟩)
theorem Vl.eq_iff{a b:Vl}:a=b↔a.text=b.text/\a.n=b.n/\a.s=b.s:=by
 constructor
 ·rintro rfl;exact⟨rfl,rfl,rfl⟩
 ·intro h;cases a;cases b;simp_all
structure Vs where
 txn:Int
 n:Int
 deriving DecidableEq
@[simp]def Vs.cells(v:Vs):List IV:=[ci v.txn,ci v.n]
abbrev Vs.av(v:Vs):AV:= .agg (v.cells.map .iv)
theorem Vs.eq_iff{a b:Vs}:a=b↔a.txn=b.txn/\a.n=b.n:=by
 constructor
 ·rintro rfl;exact⟨rfl,rfl⟩
 ·intro h;cases a;cases b;simp_all
structure Rf where
 key:Vl
 ZX:Vs
def Rf.cells(r:Rf):List IV:=[cb r.key.text,ci r.key.n, .v (.string r.key.s),ci r.ZX.txn,ci r.ZX.n]
theorem Rf.Z8(r:Rf):r.cells=[cb r.key.text,ci r.key.n, .v (.string r.key.s),ci r.ZX.txn,ci r.ZX.n]:=rfl
structure Ev where
 txn:Int
 kind:Int
 level:Int
 table:Int
 key:Vl
 ZX:Vs
 n:Int
 row:List Vl
 pred:Pd
 refs:List Rf
 cur:Bool
def YM(r:List Vl):List (List IV):=r.map Vl.cells
def Nn(r:List Rf):List (List IV):=r.map Rf.cells
@[simp]theorem f7r(r:List Vl):(YM r).length=r.length:=by simp[YM]
@[simp]theorem f8r(r:List Vl)(i:Nat):(YM r)[i]? =(r[i]?).map Vl.cells:=by simp[YM]
@[simp]theorem d2P(r:List Rf):(Nn r).length=r.length:=by simp[Nn]
@[simp]theorem d3P(r:List Rf)(i:Nat):(Nn r)[i]? =(r[i]?).map Rf.cells:=by simp[Nn]
def Ev.cells(e:Ev):List IV:=ci e.txn::ci e.kind::ci e.level::ci e.table::cb e.key.text::ci e.key.n:: .v (.string e.key.s)::ci e.ZX.txn::ci e.ZX.n::ci e.n:: .Z6 3 (YM e.row)::(e.pred.cells++[.Z6 5 (Nn e.refs),cb e.cur])
theorem Ev.Z8(e:Ev):e.cells=[ci e.txn,ci e.kind,ci e.level,ci e.table,cb e.key.text,ci e.key.n, .v (.string e.key.s),ci e.ZX.txn,ci e.ZX.n,ci e.n, .Z6 3 (YM e.row),
 ci e.pred.op,ci e.pred.col,cb e.pred.v.text,ci e.pred.v.n, .v (.string e.pred.v.s),cb e.pred.w.text,ci e.pred.w.n, .v (.string e.pred.w.s), .Z6 9 (e.pred.l.map Pd.cells), .Z6 5 (Nn e.refs),cb e.cur]:=by
 unfold Ev.cells;rw[Pd.Z8];rfl
@[simp]theorem Ev.len(e:Ev):e.cells.length=22:=by rw[Ev.Z8];rfl
theorem Ev.at(e:Ev)(i:Nat):e.cells[i]? =([ci e.txn,ci e.kind,ci e.level,ci e.table,cb e.key.text,ci e.key.n, .v (.string e.key.s),ci e.ZX.txn,ci e.ZX.n,ci e.n, .Z6 3 (YM e.row),
 ci e.pred.op,ci e.pred.col,cb e.pred.v.text,ci e.pred.v.n, .v (.string e.pred.v.s),cb e.pred.w.text,ci e.pred.w.n, .v (.string e.pred.w.s), .Z6 9 (e.pred.l.map Pd.cells), .Z6 5 (Nn e.refs),cb e.cur]:List IV)[i]? :=by rw[Ev.Z8]
theorem Jp{l:List IV}{i:Nat}{x:IV}{h:i<l.length}(e:l[i]? =some x):l[i]=x:=(a7y.1 e).2
section
variable(e:Ev)
@[simp]theorem Ev.g0{h}:e.cells[0]'h=ci e.txn:=Jp (by rw[Ev.at];rfl)
@[simp]theorem Ev.g1{h}:e.cells[1]'h=ci e.kind:=Jp (by rw[Ev.at];rfl)
@[simp]theorem Ev.g2{h}:e.cells[2]'h=ci e.level:=Jp (by rw[Ev.at];rfl)
@[simp]theorem Ev.g3{h}:e.cells[3]'h=ci e.table:=Jp (by rw[Ev.at];rfl)
@[simp]theorem Ev.g4{h}:e.cells[4]'h=cb e.key.text:=Jp (by rw[Ev.at];rfl)
@[simp]theorem Ev.g5{h}:e.cells[5]'h=ci e.key.n:=Jp (by rw[Ev.at];rfl)
@[simp]theorem Ev.g6{h}:e.cells[6]'h= .v (.string e.key.s):=Jp (by rw[Ev.at];rfl)
@[simp]theorem Ev.g7{h}:e.cells[7]'h=ci e.ZX.txn:=Jp (by rw[Ev.at];rfl)
@[simp]theorem Ev.g8{h}:e.cells[8]'h=ci e.ZX.n:=Jp (by rw[Ev.at];rfl)
@[simp]theorem Ev.g9{h}:e.cells[9]'h=ci e.n:=Jp (by rw[Ev.at];rfl)
@[simp]theorem Ev.g10{h}:e.cells[10]'h= .Z6 3 (YM e.row):=Jp (by rw[Ev.at];rfl)
@[simp]theorem Ev.g20{h}:e.cells[20]'h= .Z6 5 (Nn e.refs):=Jp (by rw[Ev.at];rfl)
@[simp]theorem Ev.g21{h}:e.cells[21]'h=cb e.cur:=Jp (by rw[Ev.at];rfl)
@[simp]theorem Ev.q0:e.cells[0]? =some (ci e.txn):=by rw[Ev.at];rfl
@[simp]theorem Ev.q1:e.cells[1]? =some (ci e.kind):=by rw[Ev.at];rfl
@[simp]theorem Ev.q2:e.cells[2]? =some (ci e.level):=by rw[Ev.at];rfl
@[simp]theorem Ev.q3:e.cells[3]? =some (ci e.table):=by rw[Ev.at];rfl
@[simp]theorem Ev.q4:e.cells[4]? =some (cb e.key.text):=by rw[Ev.at];rfl
@[simp]theorem Ev.q5:e.cells[5]? =some (ci e.key.n):=by rw[Ev.at];rfl
@[simp]theorem Ev.q6:e.cells[6]? =some (.v (.string e.key.s)):=by rw[Ev.at];rfl
@[simp]theorem Ev.q7:e.cells[7]? =some (ci e.ZX.txn):=by rw[Ev.at];rfl
@[simp]theorem Ev.q8:e.cells[8]? =some (ci e.ZX.n):=by rw[Ev.at];rfl
@[simp]theorem Ev.q9:e.cells[9]? =some (ci e.n):=by rw[Ev.at];rfl
@[simp]theorem Ev.q10:e.cells[10]? =some (.Z6 3 (YM e.row)):=by rw[Ev.at];rfl
@[simp]theorem Ev.q20:e.cells[20]? =some (.Z6 5 (Nn e.refs)):=by rw[Ev.at];rfl
@[simp]theorem Ev.q21:e.cells[21]? =some (cb e.cur):=by rw[Ev.at];rfl
@[simp]theorem Ev.g2b:a7U 3 (c3R 4 (e.cells.map AV.iv))=[.iv (cb e.key.text), .iv (ci e.key.n), .iv (.v (.string e.key.s))]:=by rw[Ev.Z8];rfl
@[simp]theorem Ev.g3b:a7U 2 (c3R 7 (e.cells.map AV.iv))=[.iv (ci e.ZX.txn), .iv (ci e.ZX.n)]:=by rw[Ev.Z8];rfl
@[simp]theorem Ev.tR:a7U 9 (c3R 11 (e.cells.map AV.iv))=e.pred.cells.map AV.iv:=by rw[Ev.Z8,Pd.Z8];rfl
@[simp]theorem Ev.f9r:a7U 22 e.cells=e.cells:=a2B (by simp)
@[simp]theorem Ev.f8f:a7U 22 (e.cells.map AV.iv)=e.cells.map AV.iv:=a2B (by simp)
end
def Ev.av(e:Ev):AV:= .agg (e.cells.map .iv)
structure Ins where
 table:Int
 key:Vl
 ZW:List Int
def Ins.cells(o:Ins):List IV:=[ci o.table,cb o.key.text,ci o.key.n, .v (.string o.key.s), .Z6 1 (Yj o.ZW)]
theorem Ins.Z8(o:Ins):o.cells=[ci o.table,cb o.key.text,ci o.key.n, .v (.string o.key.s), .Z6 1 (Yj o.ZW)]:=rfl
structure Hs where
 tables:List Tb
 events:List Ev
 order:List Ins
def Zd(l:List Tb):List (List IV):=l.map fun t=>[Wr t]
def Zi(l:List Ev):List (List IV):=l.map Ev.cells
def Zh(l:List Ins):List (List IV):=l.map Ins.cells
@[simp]theorem f0s(l:List Tb):(Zd l).length=l.length:=by simp[Zd]
@[simp]theorem f1s(l:List Tb)(i:Nat):(Zd l)[i]? =(l[i]?).map fun t=>[Wr t]:=by simp[Zd]
@[simp]theorem f2s(l:List Ev):(Zi l).length=l.length:=by simp[Zi]
@[simp]theorem f3s(l:List Ev)(i:Nat):(Zi l)[i]? =(l[i]?).map Ev.cells:=by simp[Zi]
@[simp]theorem f4s(l:List Ins):(Zh l).length=l.length:=by simp[Zh]
@[simp]theorem f5s(l:List Ins)(i:Nat):(Zh l)[i]? =(l[i]?).map Ins.cells:=by simp[Zh]
def Hs.cells(h:Hs):List IV:=[.Z6 1 (Zd h.tables), .Z6 22 (Zi h.events), .Z6 5 (Zh h.order)]
def Hs.av(h:Hs):AV:= .agg [.iv (.Z6 1 (Zd h.tables)), .iv (.Z6 22 (Zi h.events)), .iv (.Z6 5 (Zh h.order))]
structure Ev.Ok (e:Ev):Prop where
 row:e.row.length<2^63
 refs:e.refs.length<2^63
 pred:e.pred.Ok
 key:e.key.s.size<2^63
 f2P:∀r,r∈e.refs->r.key.s.size<2^63
structure Hs.Ok (h:Hs):Prop where
 tables:h.tables.length<2^63
 events:h.events.length<2^63
 order:h.order.length<2^63
 ev:∀e,e∈h.events->e.Ok
 ZW:∀o,o∈h.order->o.ZW.length<2^63
 tb:∀t,t∈h.tables->t.length<2^63
 e7B:∀o,o∈h.order->o.key.s.size<2^63
def Ev.Qt(txn table:Int)(k:Vl)(e:Ev):Bool:=decide (e.kind=3)&&decide (e.txn=txn)&&decide (e.table=table)&&decide (e.key=k)
theorem Ev.Yw{e:Ev}{txn table:Int}{k:Vl}:e.Qt txn table k=true↔e.kind=3/\e.txn=txn/\e.table=table/\e.key.text=k.text/\e.key.n=k.n/\e.key.s=k.s:=by
 unfold Ev.Qt;simp only[a4C,decide_eq_true_eq,Vl.eq_iff,and_assoc]
def Yo(es:List Ev)(txn table:Int)(k:Vl):Nat:=(es.filter (Ev.Qt txn table k)).length
theorem d6P{es:List Ev}{i:Nat}{e:Ev}(h:es[i]? =some e)(txn table:Int)(k:Vl):Yo (es.take (i+1)) txn table k=Yo (es.take i) txn table k+if e.Qt txn table k=true then 1 else 0:=by
 have:es.take (i+1)=es.take i++[e]:=by rw[a1J,h];rfl
 rw[this];unfold Yo;rw[List.filter_append,a7J]
 congr 1
 cases hw:e.Qt txn table k<;>simp[hw]
theorem d7P(es:List Ev)(txn table:Int)(k:Vl):Yo es txn table k<=es.length:=List.length_filter_le _ _
theorem d8P{p q:Prop}:Yp p=Yp q↔(p↔q):=by rw[Tz,Rn]
theorem d9P{p q:Prop}[Decidable q]:decide q=Yp p↔(q↔p):=by rw[Tz,decide_eq_true_eq]
theorem N5{α:Type}{l:List α}{i:Nat}{x:α}(h:l[i]? =some x):l.take (i+1)=l.take i++[x]:=by
 rw[a1J,h];rfl
def M6(es:List Ev)(txn:Int):Prop:=∃x,x∈es/\x.txn=txn
def OZ(es:List Ev)(txn:Int):Prop:=∀x,x∈es->x.txn=txn->x.kind≠5/\x.kind≠6
@[simp]theorem d3Q{txn:Int}:M6 [] txn↔False:=by unfold M6;simp
@[simp]theorem d4Q{txn:Int}:OZ [] txn:=fun _ h=>by cases h
theorem d5Q{es:List Ev}{e:Ev}{txn:Int}:M6 (es++[e]) txn↔M6 es txn\/e.txn=txn:=by
 unfold M6;constructor
 ·rintro⟨x,h,h2⟩
  rcases a1E.1 h with h|h
  ·exact .inl ⟨x,h,h2⟩
  ·simp only[a2z]at h;subst h;exact .inr h2
 ·rintro(⟨x,h,h2⟩|h)
  ·exact⟨x,a6O _ h,h2⟩
  ·exact⟨e,by simp,h⟩
theorem d6Q{es:List Ev}{e:Ev}{txn:Int}:OZ (es++[e]) txn↔OZ es txn/\(e.txn=txn->e.kind≠5/\e.kind≠6):=by
 unfold OZ;constructor
 ·intro h;exact⟨fun x hx=>h x (a6O _ hx),h e (by simp)⟩
 ·rintro⟨h,h2⟩ x hx
  rcases a1E.1 hx with hx|hx
  ·exact h x hx
  ·simp only[a2z]at hx;subst hx;exact h2
def GR(es:List Ev)(e:Ev):Prop:=1<=e.txn/\1<=e.kind/\e.kind<=6/\OZ es e.txn/\(e.kind=1->¬M6 es e.txn/\1<=e.level/\e.level<=5)/\(e.kind≠1->M6 es e.txn)
structure Eg where
 ZX:Int
 to:Int
 kind:Int
 table:Int
 key:Vl
 ZN:Bool
 deriving DecidableEq
def Eg.cells(e:Eg):List IV:=[ci e.ZX,ci e.to,ci e.kind,ci e.table,cb e.key.text,ci e.key.n, .v (.string e.key.s),cb e.ZN]
def Eg.av(e:Eg):AV:= .agg (e.cells.map .iv)
def ZR(l:List Eg):List (List IV):=l.map Eg.cells
def Z5(l:List Eg):IV:= .Z6 8 (ZR l)
@[simp]theorem b7L(l:List Eg):(ZR l).length=l.length:=by simp[ZR]
@[simp]theorem f3j(l:List Eg)(i:Nat):(ZR l)[i]? =(l[i]?).map Eg.cells:=by simp[ZR]
theorem Eg.eq_iff{a b:Eg}:a=b↔a.ZX=b.ZX/\a.to=b.to/\a.kind=b.kind/\a.table=b.table/\a.key=b.key/\a.ZN=b.ZN:=by
 obtain⟨a1,a2,a3,a4,a5,a8⟩:=a;obtain⟨b1,b2,b3,b4,b5,b8⟩:=b;simp
end Go.Rt
end

section
namespace Go.Vm
@[simp]theorem ev_pn{s:St}:s.ev (.const (.pointer none))= .iv (.v (.pointer none)):=rfl
theorem b6l{s:St}{j i sz id:Nat}{cs:List AV}(h:look s.hp j=some (.box cs))(hi:cs[i]? =some (.nil sz))(Y6:look s.hp id=none)(VF:id<1000):
 Le s ((s.add id (.list sz [])).add j (.box (cs.set i (.sl id sz 0 0)))):=by
 rintro E n a w ⟨ψ,hs⟩;have h1:=hs.new (o:= .list sz []) (p:=none) (w':=w) VF Y6 (Ext.refl w) (fun b k e=>by cases e) ⟨fun _ h=>(by cases h), .inl ⟨by simp[XF],rfl⟩⟩
 have hj:j≠id:=by rintro rfl;rw[Y6]at h;cases h
 have hl:look (s.add id (.list sz [])).hp j=some (.box cs):=by rw[WX,if_neg (Ne.symm hj)];exact h
 obtain⟨b,c,e,g1,g2,g3,g4⟩:=h1.YH j _ hl
 have Wn:XF ψ id none id=none:=by simp[XF]
 refine⟨_,h1.MH (o':= .box (cs.set i (.sl id sz 0 0))) hl (Ob.le_none rfl) rfl (fun h=>by cases h) g1 (fun _ _=>rfl) rfl ⟨rfl,rfl,rfl,a8F _⟩ fun hm _=>⟨b,c,e,g1,g2,by simpa using g3,fun k x hx=>?_⟩⟩;rw[List.getElem?_set]at hx;split at hx
 ·rename_i e1;subst e1;split at hx
  ·simp only[a5y]at hx;subst hx;have:=g4 i _ hi;generalize c.getD i undef=v at this;cases this;exact .U4 id sz (.list sz []) 0 (by rw[WX,if_neg hj,WX,if_pos rfl]) rfl Wn
  ·cases hx
 ·exact hm x _ (g4 k x hx)
theorem b7l{P:Program}{c:Z9}{s:St}{O:YC}(D':List Nat)(n:Nat)(S:Nat->St)(Q:Nat->Prop)(h0:Le s (S 0))(q0:Q 0)
 (hs:∀i,i<=n->Q i->X5 P c (S i) {O with n:=fun s2=>i<n/\LeTo D' s2 (S (i+1))/\Q (i+1)}):Fh P c s O:=by
 refine⟨fun k s=>∃i,i<=n/\k=n-i/\s=S i/\Q i,h0.x ⟨_,0,c4u _,rfl,rfl,q0⟩,?_⟩;rintro k s' ⟨i,hi,rfl,rfl,hq⟩;refine Eo c (O:={O with n:=fun s2=>i<n/\LeTo D' s2 (S (i+1))/\Q (i+1)}) (fun s2 h=>?_) (fun _ _ h=>h) (fun _ h=>h) (fun _ _ h=>h) (hs i hi hq);obtain⟨ZV,hle,V0⟩:=h;exact⟨_,_,by omega,hle.le,i+1,ZV,rfl,rfl,V0⟩
end Go.Vm
end

section
namespace Go.Rt
def TH{α:Type}:List (List α)->List α
 | []=>[]
 |x::r=>if x.isEmpty then TH r else x
def Vn{α:Type}(f:Nat->List α)(j:Nat):List α:=TH ((a0I j).map f)
section
variable{α:Type}
theorem b5o(a b:List (List α)):TH (a++b)=if(TH a).isEmpty then TH b else TH a:=by
 induction a with
 |nil=>simp[TH]
 |cons x r ih=>
  simp only[c6h,TH]
  by_cases h:x.isEmpty<;>simp[h,ih]
theorem b6o(f:Nat->List α)(j:Nat):Vn f (j+1)=if(Vn f j).isEmpty then f j else Vn f j:=by
 unfold Vn;rw[List.range_succ,a6M,b5o]
 by_cases h:(f j).isEmpty
 ·have:f j=[]:=List.isEmpty_iff.1 h;simp[TH,this]
 ·simp[TH,h]
theorem b7o{f:Nat->List α}{j:Nat}(h:Vn f j=[]):Vn f (j+1)=f j:=by rw[b6o,h];rfl
theorem b8o{f:Nat->List α}{j:Nat}(h:Vn f j≠[]):Vn f (j+1)=Vn f j:=by
 rw[b6o,if_neg (by simpa using h)]
theorem b9o{f:Nat->List α}{j n:Nat}(h:Vn f j≠[])(hn:j<=n):Vn f n=Vn f j:=by
 induction n with
 |zero=>
  have:j=0:=by omega
  subst this;rfl
 |succ n ih=>
  by_cases e:j=n+1
  ·subst e;rfl
  ·have:=ih (by omega);rw[b8o (by rw[this];exact h),this]
theorem b0p{f:Nat->List α}:∀(n:Nat),(∀i,i<n->f i=[])->Vn f n=[]
 | 0,_=>rfl
 |n+1,h=>by rw[b7o (b0p n fun i hi=>h i (by omega))];exact h n (by omega)
theorem b1p{f:Nat->List α}{i n:Nat}(h:∀j,j<i->f j=[])(hi:i<n)(ZS:f i≠[]):Vn f n=f i:=by
 have h1:=b7o (b0p i h);rw[b9o (j:=i+1) (by rw[h1];exact ZS) hi,h1]
theorem b2p{f:Nat->List α}:∀{n:Nat},Vn f n=[]->∀i,i<n->f i=[]
 | 0,_,i,hi=>by omega
 |n+1,h,i,hi=>by
  have h0:Vn f n=[]:=by
   by_cases hc:Vn f n=[]
   ·exact hc
   ·rw[b8o hc]at h;exact h
  rw[b7o h0]at h
  by_cases Yq:i=n
  ·subst Yq;exact h
  ·exact b2p h0 i (by omega)
theorem b3p{f:Nat->List α}:∀{n:Nat},Vn f n≠[]->∃i,i<n/\Vn f n=f i/\∀j,j<i->f j=[]
 | 0,h=>absurd rfl h
 |n+1,h=>by
  by_cases hc:Vn f n=[]
  ·exact⟨n,by omega,b7o hc,fun j hj=>b2p hc j hj⟩
  ·obtain⟨i,h1,h2,h3⟩:=b3p hc;exact⟨i,by omega,by rw[b8o hc];exact h2,h3⟩
end
abbrev Fm:=List (Int×Int)
def XA(f:Fm)(k:Int):Option Int:=(f.find? fun p=>decide (p.1=k)).map (·.2)
theorem b4p(f:Fm)(k i q:Int):XA (f++[(k,i)]) q=(XA f q).or (if k=q then some i else none):=by
 unfold XA;rw[c6H]
 cases h:d4S (fun p=>decide (p.1=q)) f with
 |some p=>simp
 |none=>by_cases e:k=q<;>simp[d4S,e]
theorem b5p{f:Fm}{k:Int}:XA f k=none↔k∉f.map (·.1):=by
 unfold XA;rw[Option.map_eq_none_iff,b4w];simp only[decide_eq_true_eq,a3E,not_exists,not_and]
theorem b6p:∀{f:Fm} {k i:Int},(f.map (·.1)).Nodup->(k,i)∈f->XA f k=some i
 | [],k,i,_,h=>by cases h
 |(a,b)::f,k,i,hn,h=>by
  simp only[a0G,b0q]at hn;unfold XA;rw[c8B]
  rcases a2E.1 h with h|h
  ·cases h;simp
  ·have hak:a≠k:=by
    rintro rfl;exact hn.1 (a3E.2 ⟨_,h,rfl⟩)
   have:=b6p hn.2 h;unfold XA at this;simp only[hak,decide_false];exact this
structure Gr where
 m:Nat
 F:Nat->Int
 T:Nat->Int
 ok:Nat->Bool
def IH(p:List Nat):Nat:=p.getLast?.getD 0
theorem b8p(p:List Nat)(k:Nat):IH (p++[k])=k:=by simp[IH]
def WI(p:List Nat)(ks:List Nat):List (List Nat):=ks.map fun k=>p++[k]
section
variable(G:Gr)
def nd(p:List Nat):Int:=G.T (IH p)
def Xy:List Int->List (List Nat)->List (List Nat)
 | _,[]=>[]
 |S,p::r=>if nd G p∈S then Xy S r else p::Xy (nd G p::S) r
def after:List Int->List (List Nat)->List Int
 |S,[]=>S
 |S,p::r=>if nd G p∈S then after S r else after (nd G p::S) r
variable{G}
theorem Qj(p:List Nat)(k:Nat):nd G (p++[k])=G.T k:=by simp[nd,b8p]
theorem b1q(k:Nat):nd G [k]=G.T k:=rfl
theorem rN(S:List Int)(p:List Nat)(r:List (List Nat)):Xy G S (p::r)=if nd G p∈S then Xy G S r else p::Xy G (nd G p::S) r:=rfl
theorem b3q(S:List Int)(p:List Nat)(r:List (List Nat)):after G S (p::r)=if nd G p∈S then after G S r else after G (nd G p::S) r:=rfl
theorem b4q(l:List (List Nat)):∀(S:List Int) (x:Int),x∈after G S l↔x∈S\/∃p,p∈l/\nd G p=x:=by
 induction l with
 |nil=>intro S x;simp[after]
 |cons p r ih=>
  intro S x;unfold after
  by_cases h:nd G p∈S
  ·rw[if_pos h,ih];constructor
   ·rintro(hx|⟨q,hq,hx⟩)
    ·exact .inl hx
    ·exact .inr ⟨q,a2C _ hq,hx⟩
   ·rintro(hx|⟨q,hq,hx⟩)
    ·exact .inl hx
    ·rcases a2E.1 hq with rfl|hq
     ·exact .inl (hx▸h)
     ·exact .inr ⟨q,hq,hx⟩
  ·rw[if_neg h,ih];constructor
   ·rintro(hx|⟨q,hq,hx⟩)
    ·rcases a2E.1 hx with rfl|hx
     ·exact .inr ⟨p,a8C,rfl⟩
     ·exact .inl hx
    ·exact .inr ⟨q,a2C _ hq,hx⟩
   ·rintro(hx|⟨q,hq,hx⟩)
    ·exact .inl (a2C _ hx)
    ·rcases a2E.1 hq with rfl|hq
     ·exact .inl (hx▸a8C)
     ·exact .inr ⟨q,hq,hx⟩
theorem b5q(a:List (List Nat)):∀(S:List Int) (b:List (List Nat)),Xy G S (a++b)=Xy G S a++Xy G (after G S a) b:=by
 induction a with
 |nil=>intro S b;rfl
 |cons p r ih=>
  intro S b;rw[c6h,rN,rN,b3q]
  by_cases h:nd G p∈S
  ·rw[if_pos h,if_pos h,if_pos h];exact ih S b
  ·rw[if_neg h,if_neg h,if_neg h,ih];rfl
theorem b6q(l:List (List Nat)):∀{S S':List Int},(∀x,x∈S↔x∈S')->Xy G S l=Xy G S' l:=by
 induction l with
 |nil=>intro S S' _;rfl
 |cons p r ih=>
  intro S S' h;unfold Xy
  by_cases hp:nd G p∈S
  ·rw[if_pos hp,if_pos ((h _).1 hp)];exact ih h
  ·rw[if_neg hp,if_neg fun h'=>hp ((h _).2 h')];rw[ih (S:=nd G p::S) (S':=nd G p::S') fun x=>by simp[h x]]
theorem b7q(l:List (List Nat)):∀{S:List Int},(∀p,p∈l->nd G p∈S)->Xy G S l=[]:=by
 induction l with
 |nil=>intro S _;rfl
 |cons p r ih=>
  intro S h;unfold Xy;rw[if_pos (h p a8C)]
  exact ih fun q hq=>h q (a2C _ hq)
theorem pL(l:List (List Nat)):∀{S:List Int} {p:List Nat},p∈Xy G S l->p∈l/\nd G p∉S:=by
 induction l with
 |nil=>intro S p h;cases h
 |cons q r ih=>
  intro S p h;unfold Xy at h
  by_cases hq:nd G q∈S
  ·rw[if_pos hq]at h;obtain⟨h1,h2⟩:=ih h;exact⟨a2C _ h1,h2⟩
  ·rw[if_neg hq]at h
   rcases a2E.1 h with rfl|h
   ·exact⟨a8C,hq⟩
   ·obtain⟨h1,h2⟩:=ih h;exact⟨a2C _ h1,fun h'=>h2 (a2C _ h')⟩
theorem b9q(l:List (List Nat)):∀{S:List Int} {p:List Nat},p∈l->nd G p∈S\/∃q,q∈Xy G S l/\nd G q=nd G p:=by
 induction l with
 |nil=>intro S p h;cases h
 |cons q r ih=>
  intro S p h;unfold Xy
  by_cases hq:nd G q∈S
  ·rw[if_pos hq]
   rcases a2E.1 h with rfl|h
   ·exact .inl hq
   ·exact ih h
  ·rw[if_neg hq]
   rcases a2E.1 h with rfl|h
   ·exact .inr ⟨p,a8C,rfl⟩
   ·rcases ih (S:=nd G q::S) h with h'|⟨q',h1,h2⟩
    ·rcases a2E.1 h' with h'|h'
     ·exact .inr ⟨q,a8C,h'.symm⟩
     ·exact .inl h'
    ·exact .inr ⟨q',a2C _ h1,h2⟩
theorem b0r(l:List (List Nat)):∀{S:List Int},((Xy G S l).map (nd G)).Nodup:=by
 induction l with
 |nil=>intro S;simp[Xy]
 |cons q r ih=>
  intro S;unfold Xy
  by_cases hq:nd G q∈S
  ·rw[if_pos hq];exact ih
  ·rw[if_neg hq,a0G,b0q];refine⟨fun h=>?_,ih⟩;obtain⟨p,hp,he⟩:=a3E.1 h;exact(pL r hp).2 (he▸a8C)
theorem b1r(c:Int->Bool)(l:List (List Nat)):∀{S:List Int},(∀x,x∈S->c x=false)->(Xy G S l).find? (fun p=>c (nd G p))=l.find? fun p=>c (nd G p):=by
 induction l with
 |nil=>intro S _;rfl
 |cons q r ih=>
  intro S h;unfold Xy
  by_cases hq:nd G q∈S
  ·rw[if_pos hq,ih h];simp[h _ hq]
  ·rw[if_neg hq]
   cases hc:c (nd G q)with
   |true=>simp[hc]
   |false=>
    simp only[c8B,hc]
    exact ih fun x hx=>by
     rcases a2E.1 hx with rfl|hx
     ·exact hc
     ·exact h x hx
def c2(p:List Nat)(k:Nat):Bool:=decide (G.ok k=true/\G.F k=nd G p)
def c1(p:List Nat)(k:Nat):Bool:=decide (G.ok k=true/\G.F k=nd G p/\G.T k∉p.map G.T)
variable(G) in
def ext1(p:List Nat):List (List Nat):=WI p ((a0I G.m).filter (c1 (G:=G) p))
variable(G) in
def WH(p:List Nat):List (List Nat):=WI p ((a0I G.m).filter (c2 (G:=G) p))
variable(G) in
def NQ(a b:Int):Prop:=∃k,k<G.m/\G.ok k=true/\G.F k=a/\G.T k=b
theorem b2r(p:List Nat)(ks:List Nat):∀{S:List Int},(∀x,x∈p.map G.T->x∈S)->Xy G S (WI p (ks.filter (c1 (G:=G) p)))=Xy G S (WI p (ks.filter (c2 (G:=G) p))):=by
 induction ks with
 |nil=>intro S _;rfl
 |cons k r ih=>
  intro S hp;rw[a0V,a0V]
  by_cases h2:c2 (G:=G) p k=true
  ·rw[if_pos h2]
   by_cases hm:G.T k∈p.map G.T
   ·have h1:¬c1 (G:=G) p k=true:=by simp only[c1,decide_eq_true_eq];exact fun h=>h.2.2 hm
    rw[if_neg h1]
    show _=Xy G S ((p++[k])::WI p (r.filter (c2 (G:=G) p)))
    rw[rN,Qj,if_pos (hp _ hm)];exact ih hp
   ·have h1:c1 (G:=G) p k=true:=by
     simp only[c2,decide_eq_true_eq]at h2;simp only[c1,decide_eq_true_eq];exact⟨h2.1,h2.2,hm⟩
    rw[if_pos h1]
    show Xy G S ((p++[k])::WI p (r.filter (c1 (G:=G) p)))=Xy G S ((p++[k])::WI p (r.filter (c2 (G:=G) p)))
    rw[rN,rN,ih hp,ih fun x hx=>a2C _ (hp x hx)]
  ·have h1:¬c1 (G:=G) p k=true:=by
    simp only[c2,decide_eq_true_eq]at h2
    simp only[c1,decide_eq_true_eq];exact fun h=>h2 ⟨h.1,h.2.1⟩
   rw[if_neg h1,if_neg h2];exact ih hp
theorem b3r{p:List Nat}{S:List Int}(hp:∀x,x∈p.map G.T->x∈S):Xy G S (ext1 G p)=Xy G S (WH G p):=b2r p _ hp
theorem b4r{p q:List Nat}(h:q∈ext1 G p):∃k,q=p++[k]/\k<G.m/\G.ok k=true/\G.F k=nd G p/\G.T k∉p.map G.T:=by
 obtain⟨k,hk,rfl⟩:=a3E.1 h;rw[a0F,a4U]at hk;have:=hk.2;simp only[c1,decide_eq_true_eq]at this;exact⟨k,rfl,hk.1,this⟩
theorem b5r{p q:List Nat}(h:q∈WH G p):∃k,q=p++[k]/\k<G.m/\G.ok k=true/\G.F k=nd G p:=by
 obtain⟨k,hk,rfl⟩:=a3E.1 h;rw[a0F,a4U]at hk;have:=hk.2;simp only[c2,decide_eq_true_eq]at this;exact⟨k,rfl,hk.1,this⟩
theorem b6r{p:List Nat}{k:Nat}(hm:k<G.m)(ho:G.ok k=true)(hF:G.F k=nd G p)(hT:G.T k∉p.map G.T):p++[k]∈ext1 G p:=
 a3E.2 ⟨k,a0F.2 ⟨a4U.2 hm,by simp only[c1,decide_eq_true_eq];exact⟨ho,hF,hT⟩⟩,rfl⟩
theorem b7r{p:List Nat}{k:Nat}(hm:k<G.m)(ho:G.ok k=true)(hF:G.F k=nd G p):p++[k]∈WH G p:=
 a3E.2 ⟨k,a0F.2 ⟨a4U.2 hm,by simp only[c2,decide_eq_true_eq];exact⟨ho,hF⟩⟩,rfl⟩
theorem b8r{p:List Nat}{S:List Int}(hp:∀x,x∈p.map G.T->x∈S)(x:Int):x∈after G S (ext1 G p)↔x∈S\/NQ G (nd G p) x:=by
 rw[b4q];constructor
 ·rintro(h|⟨q,hq,rfl⟩)
  ·exact .inl h
  ·obtain⟨k,rfl,h1,h2,h3,_⟩:=b4r hq;rw[Qj];exact .inr ⟨k,h1,h2,h3,rfl⟩
 ·rintro(h|⟨k,h1,h2,h3,rfl⟩)
  ·exact .inl h
  ·by_cases hx:G.T k∈p.map G.T
   ·exact .inl (hp _ hx)
   ·exact .inr ⟨p++[k],b6r h1 h2 h3 hx,Qj p k⟩
theorem b9r{p:List Nat}{S:List Int}(x:Int):x∈after G S (WH G p)↔x∈S\/NQ G (nd G p) x:=by
 rw[b4q];constructor
 ·rintro(h|⟨q,hq,rfl⟩)
  ·exact .inl h
  ·obtain⟨k,rfl,h1,h2,h3⟩:=b5r hq;rw[Qj];exact .inr ⟨k,h1,h2,h3,rfl⟩
 ·rintro(h|⟨k,h1,h2,h3,rfl⟩)
  ·exact .inl h
  ·exact .inr ⟨p++[k],b7r h1 h2 h3,Qj p k⟩
theorem b0s(L:List (List Nat)):∀{S:List Int},(∀p,p∈L->∀x,x∈p.map G.T->x∈S)->Xy G S (L.flatMap (ext1 G))=Xy G S (L.flatMap (WH G)):=by
 induction L with
 |nil=>intro S _;rfl
 |cons p r ih=>
  intro S h;have hp:=h p a8C;rw[a6V,a6V,b5q,b5q,b3r hp]
  congr 1
  rw[ih fun q hq x hx=>(b8r hp x).2 (.inl (h q (a2C _ hq) x hx))]
  exact b6q _ fun x=>(b8r hp x).trans (b9r x).symm
theorem b1s(W:List (List Nat)):∀{S R:List Int},(∀p,p∈W->∀x,x∈p.map G.T->x∈S)->(∀i,i∈R->∀k,NQ G i k->k∈S)->
 Xy G S (W.flatMap (ext1 G))=Xy G S ((Xy G R W).flatMap (ext1 G)):=by
 induction W with
 |nil=>intro S R _ _;rfl
 |cons p r ih=>
  intro S R h hT;have hp:=h p a8C;rw[a6V,b5q,rN R]
  by_cases hl:nd G p∈R
  ·rw[if_pos hl,b7q (ext1 G p) fun q hq=>by
    obtain⟨k,rfl,h1,h2,h3,_⟩:=b4r hq
    rw[Qj];exact hT _ hl _ ⟨k,h1,h2,h3,rfl⟩]
   rw[c9n, <-ih (fun q hq=>h q (a2C _ hq)) hT]
   refine b6q _ fun x=>(b8r hp x).trans ⟨?_, .inl⟩
   rintro(h|h)
   ·exact h
   ·exact hT _ hl x h
  ·rw[if_neg hl,a6V,b5q]
   congr 1
   refine ih (fun q hq x hx=>(b8r hp x).2 (.inl (h q (a2C _ hq) x hx))) fun i hi k hk=>(b8r hp k).2 ?_
   rcases a2E.1 hi with rfl|hi
   ·exact .inr hk
   ·exact .inl (hT i hi k hk)
end
section
variable(G:Gr)(s:Nat)
def Wy:Nat->List (List Nat)
 | 0=>[[s]]
 |d+1=>(Wy d).flatMap (ext1 G)
def LS:Nat->List Int×List (List Nat)
 | 0=>([G.T s],[[s]])
 |d+1=>((LS d).1++(Xy G (LS d).1 ((LS d).2.flatMap (WH G))).map (nd G),Xy G (LS d).1 ((LS d).2.flatMap (WH G)))
def Ly(d:Nat):List (List Nat):=(LS G s d).2
def Sv(d:Nat):List Int:=(LS G s d).1
def Er:Nat->List Int
 | 0=>[]
 |d+1=>Sv G s d
variable{G s}
theorem Gn(d:Nat):Ly G s (d+1)=Xy G (Sv G s d) ((Ly G s d).flatMap (WH G)):=rfl
theorem ES(d:Nat):Sv G s (d+1)=Sv G s d++(Ly G s (d+1)).map (nd G):=rfl
structure Lay (d:Nat):Prop where
 c1:Ly G s d=Xy G (Er G s d) (Wy G s d)
 c2:∀p,p∈Wy G s d->∀x,x∈p.map G.T->x∈Sv G s d
 c3:∀i,i∈Er G s d->∀k,NQ G i k->k∈Sv G s d
 c4:∀x,x∈Sv G s d↔x∈Er G s d\/∃p,p∈Ly G s d/\nd G p=x
theorem lay(G:Gr)(s:Nat):∀d,Lay (G:=G) (s:=s) d
 | 0=>by
  refine⟨?_,?_,?_,?_⟩
  ·show[[s]]=Xy G [] [[s]]
   simp[Xy]
  ·intro p hp x hx;simp only[Wy,a2z]at hp;subst hp;exact hx
  ·intro i hi;cases hi
  ·intro x
   show x∈[G.T s]↔x∈([]:List Int)\/∃p,p∈[[s]]/\nd G p=x
   simp[b1q,eq_comm]
 |d+1=>by
  have ih:=lay G s d
  have Y7:∀p,p∈Ly G s d->p∈Wy G s d:=fun p hp=>(pL _ (ih.c1▸hp)).1
  have h1:Ly G s (d+1)=Xy G (Er G s (d+1)) (Wy G s (d+1)):=by
   rw[Gn, <-b0s _ fun p hp=>ih.c2 p (Y7 p hp),ih.c1, <-b1s _ ih.c2 ih.c3];rfl
  have hup:∀x,x∈Sv G s d->x∈Sv G s (d+1):=fun x hx=>by rw[ES];exact a6O _ hx
  have h2:∀p,p∈Wy G s (d+1)->∀x,x∈p.map G.T->x∈Sv G s (d+1):=by
   intro p hp x hx;obtain⟨q,hq,BS⟩:=a2N.1 hp;obtain⟨k,rfl,_,_,_,_⟩:=b4r BS;rw[a6M,a1E]at hx
   rcases hx with hx|hx
   ·exact hup x (ih.c2 q hq x hx)
   ·simp only[a0G,a8U,a2z]at hx;subst hx
    rcases b9q (G:=G) _ (S:=Er G s (d+1)) hp with h|⟨q',g1,g2⟩
    ·rw[Qj]at h;exact hup _ h
    ·rw[ES,h1];rw[Qj]at g2;exact List.mem_append_right _ (a3E.2 ⟨q',g1,g2⟩)
  refine⟨h1,h2,?_,?_⟩
  ·intro i hi k hk
   rcases(ih.c4 i).1 hi with hi|⟨p,hp,rfl⟩
   ·exact hup _ (ih.c3 i hi k hk)
   ·obtain⟨j,j1,j2,j3,rfl⟩:=hk
    by_cases hkp:G.T j∈p.map G.T
    ·exact hup _ (ih.c2 p (Y7 p hp) _ hkp)
    ·exact h2 (p++[j]) (a2N.2 ⟨p,Y7 p hp,b6r j1 j2 j3 hkp⟩) _ (by simp)
  ·intro x;rw[ES,a1E,a3E];exact c0L
variable(G s) in
def cl(x:Int):Bool:=decide (x=G.F s)
variable(G s) in
def Open(d:Nat):Prop:=∀d',d'<d->(Ly G s d').find? (fun p=>cl G s (nd G p))=none
theorem c9w:∀{d:Nat},Open G s d->∀x,x∈Er G s d->cl G s x=false
 | 0,_,x,hx=>by cases hx
 |d+1,h,x,hx=>by
  rcases((lay G s d).c4 x).1 hx with hx|⟨p,hp,rfl⟩
  ·exact c9w (fun d' hd=>h d' (by omega)) x hx
  ·have:=b4w.1 (h d (by omega)) p hp;simpa using this
theorem c0x{d:Nat}(h:Open G s d):(Wy G s d).find? (fun p=>cl G s (nd G p))=(Ly G s d).find? fun p=>cl G s (nd G p):=by
 rw[(lay G s d).c1,b1r _ _ (c9w h)]
variable(G) in
def ways:Nat->List Nat->List (List Nat)
 | 0,l=>[l]
 |n+1,l=>(ext1 G l).flatMap (ways n)
theorem c1x:∀(n:Nat) (l:List Nat),(ways G n l).flatMap (ext1 G)=ways G (n+1) l
 | 0,l=>by simp[ways]
 |n+1,l=>by
  show((ext1 G l).flatMap (ways G n)).flatMap (ext1 G)=(ext1 G l).flatMap (ways G (n+1))
  rw[List.flatMap_assoc]
  congr 1
  funext x
  exact c1x n x
theorem c2x:∀d,ways G d [s]=Wy G s d
 | 0=>rfl
 |d+1=>by rw[<-c1x,c2x d];rfl
theorem c3x:∀(n:Nat) {l p:List Nat},l≠[]->p∈ways G n l->p≠[]
 | 0,l,p,hl,hp=>by simp only[ways,a2z]at hp;subst hp;exact hl
 |n+1,l,p,hl,hp=>by
  obtain⟨q,hq,BS⟩:=a2N.1 hp;obtain⟨k,rfl,_⟩:=b4r hq;exact c3x n (by simp) BS
theorem c4x{l:List Nat}(h:l≠[])(k:Nat):(l++[k]).headD 0=l.headD 0:=by
 cases l with
 |nil=>exact absurd rfl h
 |cons a r=>rfl
variable(G) in
def Yr:Nat->List Nat->List Nat
 | 0,l=>if nd G l=G.F (l.headD 0)then l else[]
 |n+1,l=>TH ((a0I G.m).map fun k=>if c1 (G:=G) l k then Yr n (l++[k])else[])
theorem c5x:∀(n:Nat) {l:List Nat},l≠[]->Yr G n l=((ways G n l).find? fun p=>cl G (l.headD 0) (nd G p)).getD []
 | 0,l,hl=>by
  simp only[Yr,ways,c8B,cl];generalize l.headD 0=h0
  by_cases h:nd G l=G.F h0<;>simp[h]
 |n+1,l,hl=>by
  simp only[Yr,ways,ext1,WI];generalize a0I G.m=ks
  induction ks with
  |nil=>rfl
  |cons k ks ih=>
   simp only[a0G,TH,a0V]
   by_cases hk:c1 (G:=G) l k=true
   ·rw[if_pos hk,if_pos hk,a0G,a6V,c6H];have hw:=c5x n (l:=l++[k]) (by simp);rw[c4x hl]at hw;rw[hw]
    cases hf:(ways G n (l++[k])).find? fun p=>cl G (l.headD 0) (nd G p)with
    |none=>simp only[Option.getD_none,List.isEmpty_nil,if_true,d2v];exact ih
    |some p=>
     have:=c3x n (by simp) (a8V hf);simp only[a2L,Option.some_or];rw[if_neg (by simpa using this)]
   ·rw[if_neg hk,if_neg hk];simpa using ih
theorem c6x{d:Nat}(h:Open G s d):Yr G d [s]=((Ly G s d).find? fun p=>cl G s (nd G p)).getD []:=by
 rw[c5x d (by simp),c2x]
 show((Wy G s d).find? fun p=>cl G s (nd G p)).getD []=_
 rw[c0x h]
def S7(q:List Nat):Int×Int:=(nd G q,if q.length<=1 then-1 else(IH q:Int))
theorem c7x{p:List Nat}(hp:p≠[])(k:Nat):S7 (G:=G) (p++[k])=(G.T k,(k:Int)):=by
 have:=a6I.2 hp;unfold S7;rw[Qj,b8p,if_neg (by simp;omega)]
variable(G) in
def O2(n:Int)(st:Fm×List Int)(k:Nat):Fm×List Int:=if G.ok k=true/\G.F k=n/\XA st.1 (G.T k)=none then(st.1++[(G.T k,(k:Int))],st.2++[G.T k])else st
variable(G) in
def N6(n:Int)(ks:List Nat)(st:Fm×List Int):Fm×List Int:=ks.foldl (O2 G n) st
variable(G) in
def WM(circle:List Int)(st:Fm×List Int):Fm×List Int:=circle.foldl (fun st n=>N6 G n (a0I G.m) st) st
variable(G) in
def Nr(dst n:Int):List Nat->Fm×List Int->Bool×Fm×List Int
 | [],st=>(false,st)
 |k::r,st=>if G.ok k=true/\G.F k=n/\XA st.1 (G.T k)=none then(if G.T k=dst then(true,O2 G n st k)else Nr dst n r (O2 G n st k))else Nr dst n r st
variable(G) in
def Nq(dst:Int):List Int->Fm×List Int->Bool×Fm×List Int
 | [],st=>(false,st)
 |n::r,st=>if(Nr G dst n (a0I G.m) st).1=true then Nr G dst n (a0I G.m) st else Nq dst r (N6 G n (a0I G.m) st)
variable(G) in
def QV(dst:Int):Nat->List Int->Fm->Option (Bool×Fm)
 | _,[],f=>some (false,f)
 | 0,_::_,_=>none
 |k+1,c::r,f=>if(Nq G dst (c::r) (f,[])).1=true then some (true,(Nq G dst (c::r) (f,[])).2.1)else QV dst k (WM G (c::r) (f,[])).2 (WM G (c::r) (f,[])).1
variable(G) in
def Ll(f:Fm):Nat->Int->Option (List Nat)
 | 0,at'=>if(XA f at').getD 0<0 then some []else none
 |k+1,at'=>if(XA f at').getD 0<0 then some []else(Ll f k (G.F ((XA f at').getD 0).toNat)).map fun l=>((XA f at').getD 0).toNat::l
theorem c3y{f:Fm}{S:List Int}(hS:∀x,x∈S↔x∈f.map (·.1))(l:List (List Nat))(x:Int):x∈after G S l↔x∈(f++(Xy G S l).map (S7 (G:=G))).map (·.1):=by
 rw[b4q,a6M,a1E,hS x];constructor
 ·rintro(h|⟨p,hp,rfl⟩)
  ·exact .inl h
  ·rcases b9q (G:=G) l (S:=S) hp with h|⟨q,h1,h2⟩
   ·exact .inl ((hS _).1 h)
   ·exact .inr (a3E.2 ⟨S7 (G:=G) q,a3E.2 ⟨q,h1,rfl⟩,h2⟩)
 ·rintro(h|h)
  ·exact .inl h
  ·obtain⟨_,h1,rfl⟩:=a3E.1 h;obtain⟨q,hq,rfl⟩:=a3E.1 h1;exact .inr ⟨q,(pL l hq).1,rfl⟩
theorem c4y{p:List Nat}(hp:p≠[]):∀(ks:List Nat) {f:Fm} {nx S:List Int},(∀x,x∈S↔x∈f.map (·.1))->
 N6 G (nd G p) ks (f,nx)=(f++(Xy G S (WI p (ks.filter (c2 (G:=G) p)))).map (S7 (G:=G)),nx++(Xy G S (WI p (ks.filter (c2 (G:=G) p)))).map (nd G)):=by
 intro ks
 induction ks with
 |nil=>intro f nx S _;simp[N6,WI,Xy]
 |cons k ks ih=>
  intro f nx S hS
  show N6 G (nd G p) ks (O2 G (nd G p) (f,nx) k)=_
  rw[a0V]
  by_cases hk:c2 (G:=G) p k=true
  ·rw[if_pos hk];simp only[c2,decide_eq_true_eq]at hk
   show _=(f++(Xy G S ((p++[k])::WI p _)).map (S7 (G:=G)),nx++(Xy G S ((p++[k])::WI p _)).map (nd G))
   rw[rN,Qj];unfold O2
   by_cases hm:G.T k∈S
   ·rw[if_pos hm,if_neg fun h=>b5p.1 h.2.2 ((hS _).1 hm)];exact ih hS
   ·rw[if_neg hm,if_pos ⟨hk.1,hk.2,b5p.2 fun h=>hm ((hS _).2 h)⟩]
    rw[ih (S:=G.T k::S) fun x=>by
     rw[a6M,a1E,a2E,hS x]
     simp[or_comm]]
    simp[c7x hp,Qj]
  ·rw[if_neg hk];simp only[c2,decide_eq_true_eq]at hk;unfold O2;rw[if_neg fun h=>hk ⟨h.1,h.2.1⟩];exact ih hS
theorem c5y{dst:Int}{p:List Nat}(hp:p≠[]):∀(ks:List Nat) {f:Fm} {nx S:List Int},(∀x,x∈S↔x∈f.map (·.1))->
 ((∀q,q∈Xy G S (WI p (ks.filter (c2 (G:=G) p)))->nd G q≠dst)/\(Nr G dst (nd G p) ks (f,nx)).1=false)∨
 ∃a q b EK,Xy G S (WI p (ks.filter (c2 (G:=G) p)))=a++q::b/\(∀r,r∈a->nd G r≠dst)/\nd G q=dst/\Nr G dst (nd G p) ks (f,nx)=(true,f++(a++[q]).map (S7 (G:=G)),EK):=by
 intro ks
 induction ks with
 |nil=>intro f nx S _;exact .inl ⟨by simp[WI,Xy],rfl⟩
 |cons k ks ih=>
  intro f nx S hS;rw[a0V];simp only[Nr]
  by_cases hk:c2 (G:=G) p k=true
  ·rw[if_pos hk];simp only[c2,decide_eq_true_eq]at hk;have f9k:WI p (k::ks.filter (c2 (G:=G) p))=(p++[k])::WI p (ks.filter (c2 (G:=G) p)):=rfl;rw[f9k,rN,Qj]
   by_cases hm:G.T k∈S
   ·rw[if_pos hm,if_neg fun h=>b5p.1 h.2.2 ((hS _).1 hm)];exact ih hS
   ·have hcnd:G.ok k=true/\G.F k=nd G p/\XA f (G.T k)=none:=⟨hk.1,hk.2,b5p.2 fun h=>hm ((hS _).2 h)⟩
    have YL:O2 G (nd G p) (f,nx) k=(f++[(G.T k,(k:Int))],nx++[G.T k]):=by unfold O2;rw[if_pos hcnd]
    rw[if_neg hm,if_pos hcnd,YL]
    by_cases hd:G.T k=dst
    ·rw[if_pos hd];exact .inr ⟨[],p++[k],_,nx++[G.T k],rfl,by simp,by rw[Qj];exact hd,by simp[c7x hp]⟩
    ·rw[if_neg hd]
     have:=ih (f:=f++[(G.T k,(k:Int))]) (nx:=nx++[G.T k]) (S:=G.T k::S) fun x=>by
      rw[a6M,a1E,a2E,hS x];simp[or_comm]
     rcases this with⟨h1,h2⟩|⟨a,q,b,EK,h1,h2,h3,h4⟩
     ·refine .inl ⟨fun q hq=>?_,h2⟩
      rcases a2E.1 hq with rfl|hq
      ·rw[Qj];exact hd
      ·exact h1 q hq
     ·refine .inr ⟨(p++[k])::a,q,b,EK,by rw[h1];rfl,?_,h3,by rw[h4];simp[c7x hp]⟩
      intro r hr
      rcases a2E.1 hr with rfl|hr
      ·rw[Qj];exact hd
      ·exact h2 r hr
  ·rw[if_neg hk];simp only[c2,decide_eq_true_eq]at hk;rw[if_neg fun h=>hk ⟨h.1,h.2.1⟩];exact ih hS
theorem c6y:∀(L:List (List Nat)) {f:Fm} {nx S:List Int},(∀p,p∈L->p≠[])->(∀x,x∈S↔x∈f.map (·.1))->
 WM G (L.map (nd G)) (f,nx)=(f++(Xy G S (L.flatMap (WH G))).map (S7 (G:=G)),nx++(Xy G S (L.flatMap (WH G))).map (nd G)):=by
 intro L
 induction L with
 |nil=>intro f nx S _ _;simp[WM,Xy]
 |cons p L ih=>
  intro f nx S ZS hS
  show WM G (L.map (nd G)) (N6 G (nd G p) (a0I G.m) (f,nx))=_
  rw[c4y (ZS p a8C) _ hS];have h2:WI p ((a0I G.m).filter (c2 (G:=G) p))=WH G p:=rfl;rw[h2,ih (fun q hq=>ZS q (a2C _ hq)) (c3y hS (WH G p)),a6V,b5q];simp
theorem c7y{dst:Int}:∀(L:List (List Nat)) {f:Fm} {nx S:List Int},(∀p,p∈L->p≠[])->(∀x,x∈S↔x∈f.map (·.1))->
 ((∀q,q∈Xy G S (L.flatMap (WH G))->nd G q≠dst)/\(Nq G dst (L.map (nd G)) (f,nx)).1=false)∨
 ∃a q b EK,Xy G S (L.flatMap (WH G))=a++q::b/\(∀r,r∈a->nd G r≠dst)/\nd G q=dst/\Nq G dst (L.map (nd G)) (f,nx)=(true,f++(a++[q]).map (S7 (G:=G)),EK):=by
 intro L
 induction L with
 |nil=>intro f nx S _ _;exact .inl ⟨by simp[Xy],rfl⟩
 |cons p L ih=>
  intro f nx S ZS hS;have f0l:=ZS p a8C;rw[a6V,b5q];simp only[a0G,Nq];have hsc:=c5y (G:=G) (dst:=dst) f0l (a0I G.m) (nx:=nx) hS;have h2:WI p ((a0I G.m).filter (c2 (G:=G) p))=WH G p:=rfl;rw[h2]at hsc
  rcases hsc with⟨g1,g2⟩|⟨a,q,b,EK,g1,g2,g3,g4⟩
  ·rw[if_neg (by rw[g2];simp),c4y f0l _ hS,h2]
   rcases ih (f:=f++(Xy G S (WH G p)).map (S7 (G:=G))) (nx:=nx++(Xy G S (WH G p)).map (nd G)) (fun q hq=>ZS q (a2C _ hq)) (c3y hS (WH G p))with⟨h3,h4⟩|⟨a,q,b,EK,h3,h4,h5,h6⟩
   ·refine .inl ⟨fun q hq=>?_,h4⟩
    rcases a1E.1 hq with hq|hq
    ·exact g1 q hq
    ·exact h3 q hq
   ·refine .inr ⟨Xy G S (WH G p)++a,q,b,EK,by rw[h3,List.append_assoc],fun r hr=>?_,h5,by rw[h6];simp⟩
    rcases a1E.1 hr with hr|hr
    ·exact g1 r hr
    ·exact h4 r hr
  ·rw[if_pos (by rw[g4]),g4];exact .inr ⟨a,q,b++Xy G (after G S (WH G p)) (L.flatMap (WH G)),EK,by rw[g1];simp,g2,g3,rfl⟩
variable(G s) in
def PS:Nat->List (List Nat)
 | 0=>Ly G s 0
 |d+1=>PS d++Ly G s (d+1)
variable(G s) in
def Fd(d:Nat):Fm:=(PS G s d).map (S7 (G:=G))
theorem c8y:∀d,(Fd G s d).map (·.1)=Sv G s d
 | 0=>rfl
 |d+1=>by
  have:=c8y d;unfold Fd at this⊢;rw[PS,a6M,a6M,this,ES,b6S];rfl
theorem c9y:∀{d:Nat} {p:List Nat},p∈PS G s d↔∃d',d'<=d/\p∈Ly G s d'
 | 0,p=>⟨fun h=>⟨0,a8F _,h⟩,fun⟨d',h1,h2⟩=>by
  cases Nat.le_zero.1 h1
  exact h2⟩
 |d+1,p=>by
  rw[PS,a1E,c9y];constructor
  ·rintro(⟨d',h1,h2⟩|h)
   ·exact⟨d',by omega,h2⟩
   ·exact⟨d+1,a8F _,h⟩
  ·rintro⟨d',h1,h2⟩
   by_cases hd:d'=d+1
   ·subst hd;exact .inr h2
   ·exact .inl ⟨d',by omega,h2⟩
theorem c0z:∀d,(Sv G s d).Nodup
 | 0=>by show[G.T s].Nodup;simp
 |d+1=>by
  rw[ES,b5m];refine⟨c0z d,?_,fun a ha b hb Nv=>?_⟩
  ·rw[Gn];exact b0r _
  ·subst Nv;obtain⟨p,hp,rfl⟩:=a3E.1 hb;rw[Gn]at hp;exact(pL _ hp).2 ha
structure Way (G:Gr) (s d:Nat) (p:List Nat):Prop where
 len:p.length=d+1
 Xq:∀k,k∈p->k<G.m
 nodup:(p.map G.T).Nodup
 head:p.head?=some s
 ok:∀k,k∈p.tail->G.ok k=true
 step:∀(i a b:Nat),p[i]? =some a->p[i+1]? =some b->G.F b=G.T a
theorem c1z(hs:s<G.m):∀{d:Nat} {p:List Nat},p∈Wy G s d->Way G s d p
 | 0,p,hp=>by
  simp only[Wy,a2z]at hp;subst hp;refine⟨rfl,fun x hx=>?_,by simp,rfl,fun k hk=>(by cases hk),fun i a b _ hb=>(by simp at hb)⟩;simp only[a2z]at hx;subst hx;exact hs
 |d+1,p,hp=>by
  obtain⟨q,hq,BS⟩:=a2N.1 hp;obtain⟨k,rfl,h1,h2,h3,h4⟩:=b4r BS;have ih:=c1z hs hq;refine⟨by simp[ih.len],fun x hx=>?_,?_,?_,?_,?_⟩
  ·rcases a1E.1 hx with hx|hx
   ·exact ih.Xq x hx
   ·simp only[a2z]at hx;subst hx;exact h1
  ·rw[a6M,b5m];refine⟨ih.nodup,by simp,fun a ha b hb=>?_⟩;simp only[a0G,a8U,a2z]at hb;subst hb;rintro rfl;exact h4 ha
  ·have:=ih.head
   cases q with
   |nil=>cases this
   |cons a r=>exact this
  ·intro x hx;have h0:=ih.ok
   cases q with
   |nil=>have:=ih.len;simp at this
   |cons a r=>
    have Vw:x∈r++[k]:=hx
    rcases a1E.1 Vw with Vw|Vw
    ·exact h0 x Vw
    ·simp only[a2z]at Vw;subst Vw;exact h2
  ·intro i a b ha hb;have hl:=(a7y.1 hb).1;simp only[a7J,c9E]at hl;rw[a1N (by omega)]at ha
   by_cases hi:i+1<q.length
   ·rw[a1N hi]at hb;exact ih.step i a b ha hb
   ·have he:i+1=q.length:=by omega
    rw[he]at hb;simp at hb;subst hb
    have:IH q=a:=by
     unfold IH;rw[List.getLast?_eq_getElem?,show q.length-1=i by omega,ha];rfl
    rw[h3];unfold nd;rw[this]
theorem rB(hs:s<G.m){d:Nat}{p:List Nat}(hp:p∈Ly G s d):Way G s d p:=by
 rw[(lay G s d).c1]at hp;exact c1z hs (pL _ hp).1
theorem c3z{α:Type}[DecidableEq α]:∀{l r:List α},l.Nodup->(∀x,x∈l->x∈r)->l.length<=r.length
 | [],r,_,_=>c4u _
 |a::l,r,hn,h=>by
  obtain⟨h1,h2⟩:=b0q.1 hn;have ha:=h a a8C
  have:=c3z (l:=l) (r:=r.erase a) h2 fun x hx=>by
   have ZS:x≠a:=fun e=>h1 (e▸hx)
   exact(List.mem_erase_of_ne ZS).2 (h x (a2C _ hx))
  rw[List.length_erase_of_mem ha]at this;have:=a6I.2 (List.ne_nil_of_mem ha);simp only[List.length_cons];omega
theorem Way.ne{d:Nat}{p:List Nat}(h:Way G s d p):p≠[]:=fun he=>by have:=h.len;rw[he]at this;cases this
theorem Way.lt{d:Nat}{p:List Nat}(h:Way G s d p):d<G.m:=by
 have h1:=c3z (r:=(a0I G.m).map G.T) h.nodup fun x hx=>by
  obtain⟨k,hk,rfl⟩:=a3E.1 hx;exact a3E.2 ⟨k,a4U.2 (h.Xq k hk),rfl⟩
 have:=h.len;simp at h1;omega
theorem c4z{p:List Nat}(h:p≠[]):nd G p∈p.map G.T:=by
 unfold nd IH
 cases hl:p.getLast? with
 |none=>exact absurd (List.getLast?_eq_none_iff.1 hl) h
 |some a=>exact a3E.2 ⟨a,List.mem_of_getLast? hl,rfl⟩
theorem c5z(hs:s<G.m):∀d x,x∈Sv G s d->x∈(a0I G.m).map G.T
 | 0,x,hx=>by
  have:x∈[G.T s]:=hx;simp only[a2z]at this;subst this;exact a3E.2 ⟨s,a4U.2 hs,rfl⟩
 |d+1,x,hx=>by
  rw[ES]at hx
  rcases a1E.1 hx with hx|hx
  ·exact c5z hs d x hx
  ·obtain⟨p,hp,rfl⟩:=a3E.1 hx;have hw:=rB hs hp;obtain⟨k,hk,he⟩:=a3E.1 (c4z (G:=G) hw.ne);exact a3E.2 ⟨k,a4U.2 (hw.Xq k hk),he⟩
theorem c6z(hs:s<G.m)(d:Nat):(Sv G s d).length<=G.m:=by
 have:=c3z (c0z (G:=G) (s:=s) d) (c5z hs d);simpa using this
theorem c7z(hs:s<G.m){g:Fm}(hg:(g.map (·.1)).Nodup){d:Nat}(Y7:∀p,p∈PS G s d->S7 (G:=G) p∈g):∀{d':Nat} {p:List Nat},d'<=d->p∈Ly G s d'->Ll G g d' (nd G p)=some p.tail.reverse
 | 0,p,hd,hp=>by
  have hf:=b6p hg (Y7 p (c9y.2 ⟨0,hd,hp⟩));have Fj:p∈[[s]]:=hp;simp only[a2z]at Fj;subst Fj;have hf':XA g (nd G [s])=some (-1):=hf;simp[Ll,hf']
 |d'+1,p,hd,hp=>by
  have hf:=b6p hg (Y7 p (c9y.2 ⟨d'+1,hd,hp⟩));rw[Gn]at hp;obtain⟨q,hq,BS⟩:=a2N.1 (pL _ hp).1;obtain⟨k,rfl,h1,h2,h3⟩:=b5r BS;have hqn:=(rB hs hq).ne;have ih:=c7z hs hg Y7 (by omega) hq;have he:=c7x (G:=G) hqn k
  have hk:(S7 (G:=G) (q++[k])).2=(k:Int):=by rw[he]
  have hf':XA g (nd G (q++[k]))=some (k:Int):=by rw[<-hk];exact hf
  unfold Ll;rw[hf'];simp only[a2L,c2z];rw[if_neg (by omega),h3,ih]
  cases q with
  |nil=>exact absurd rfl hqn
  |cons a r=>simp
variable(G s) in
def XG:List Nat:=Vn (fun n=>Yr G n [s]) (G.m+1)
variable(G s) in
def Found(b:Bool)(g:Fm):Prop:=
 (b=true/\∃D p,Open G s D/\(Ly G s D).find? (fun p=>cl G s (nd G p))=some p/\Ll G g D (G.F s)=some p.tail.reverse)\/(b=false/\∀D,Open G s D)
theorem c8z{d:Nat}(h:Ly G s d=[]):∀j,Ly G s (d+j)=[]
 | 0=>h
 |j+1=>by rw[<-b3P,Gn,c8z h j];rfl
theorem c9z{d:Nat}(ho:Open G s d)(h:Ly G s d=[]):∀D,Open G s D:=by
 intro D d' NL
 by_cases hd:d'<d
 ·exact ho d' hd
 ·have:=c8z h (d'-d);rw[show d+(d'-d)=d' by omega]at this;rw[this];rfl
theorem c0A{d:Nat}:(∀q,q∈Ly G s d->nd G q≠G.F s)↔(Ly G s d).find? (fun p=>cl G s (nd G p))=none:=by
 rw[b4w];constructor
 ·intro h q hq;simpa[cl]using h q hq
 ·intro h q hq;simpa[cl]using h q hq
theorem run(
 hs:s<G.m):∀(k d:Nat),Open G s (d+1)->(Ly G s d=[]\/G.m+1<=(Sv G s d).length+k)->
 ∃b g,QV G (G.F s) k ((Ly G s d).map (nd G)) (Fd G s d)=some (b,g)/\Found G s b g:=by
 intro k
 induction k with
 |zero=>
  intro d ho hk
  rcases hk with hk|hk
  ·exact⟨false,Fd G s d,by rw[hk];rfl, .inr ⟨rfl,c9z (fun d' h=>ho d' (by omega)) hk⟩⟩
  ·have:=c6z hs d;omega
 |succ k ih=>
  intro d ho hk
  by_cases hL:Ly G s d=[]
  ·exact⟨false,Fd G s d,by rw[hL];rfl, .inr ⟨rfl,c9z (fun d' h=>ho d' (by omega)) hL⟩⟩
  ·have hk:=hk.resolve_left hL;have hlf:=c7y (G:=G) (dst:=G.F s) (Ly G s d) (f:=Fd G s d) (nx:=[]) (S:=Sv G s d) (fun p hp=>(rB hs hp).ne) (fun x=>by rw[c8y]);have hls:=c6y (G:=G) (Ly G s d) (f:=Fd G s d) (nx:=[]) (S:=Sv G s d) (fun p hp=>(rB hs hp).ne) (fun x=>by rw[c8y])
   have hb:QV G (G.F s) (k+1) ((Ly G s d).map (nd G)) (Fd G s d)=if(Nq G (G.F s) ((Ly G s d).map (nd G)) (Fd G s d,[])).1=true then some (true,(Nq G (G.F s) ((Ly G s d).map (nd G)) (Fd G s d,[])).2.1)
    else QV G (G.F s) k (WM G ((Ly G s d).map (nd G)) (Fd G s d,[])).2 (WM G ((Ly G s d).map (nd G)) (Fd G s d,[])).1:=by
    cases hc:(Ly G s d).map (nd G)with
    |nil=>exact absurd (List.map_eq_nil_iff.1 hc) hL
    |cons a b=>rfl
   rw[hb]
   rcases hlf with⟨h1,h2⟩|⟨a,q,b,EK,h1,h2,h3,h4⟩
   ·rw[if_neg (by rw[h2];simp),hls];simp only[c9n]
    have EC:Open G s (d+1+1):=fun d' NL=>by
     by_cases h:d'<d+1
     ·exact ho d' h
     ·have:d'=d+1:=by omega
      subst this;rw[Gn]at*;exact c0A.1 (by rw[Gn];exact h1)
    have hF:Fd G s d++(Xy G (Sv G s d) ((Ly G s d).flatMap (WH G))).map (S7 (G:=G))=Fd G s (d+1):=by
     unfold Fd;rw[PS,a6M];rfl
    rw[hF];refine ih (d+1) EC ?_
    by_cases hL2:Ly G s (d+1)=[]
    ·exact .inl hL2
    ·right;have:=a6I.2 hL2;rw[ES,a7J,a6S];omega
   ·rw[if_pos (by rw[h4]),h4];refine⟨true,_,rfl, .inl ⟨rfl,d+1,q,ho,?_,?_⟩⟩
    ·rw[Gn,h1,c6H,b4w.2,d2v]
     ·rw[c8B]
      have:cl G s (nd G q)=true:=by simp[cl,h3]
      rw[this]
     ·intro x hx;have:=h2 x hx;simpa[cl]using this
    ·have hq:q∈Ly G s (d+1):=by rw[Gn,h1];simp
     have WZ:((Fd G s d++(a++[q]).map (S7 (G:=G))).map (·.1)).Nodup:=by
      have hn:=c0z (G:=G) (s:=s) (d+1);rw[ES,Gn,h1]at hn;rw[a6M,c8y]
      have he:Sv G s d++(a++q::b).map (nd G)=(Sv G s d++((a++[q]).map (S7 (G:=G))).map (·.1))++b.map (nd G):=by
       simp[S7,b8q]
      rw[he]at hn;exact(b5m.1 hn).1
     rw[<-h3];obtain⟨p,hp,BS⟩:=a2N.1 (pL _ (by rw[Gn]at hq;exact hq)).1;obtain⟨j,rfl,j1,j2,j3⟩:=b5r BS;have hpn:=(rB hs hp).ne;have he:=c7x (G:=G) hpn j
     have hf:XA (Fd G s d++(a++[p++[j]]).map (S7 (G:=G))) (nd G (p++[j]))=some (j:Int):=by
      refine b6p WZ ?_;rw[Qj, <-he];simp
     have ih2:=c7z hs (g:=Fd G s d++(a++[p++[j]]).map (S7 (G:=G))) WZ (d:=d) (fun r hr=>a6O _ (a3E.2 ⟨r,hr,rfl⟩)) (a8F d) hp;unfold Ll;rw[hf];simp only[a2L,c2z];rw[if_neg (by omega),j3,ih2]
     cases p with
     |nil=>exact absurd rfl hpn
     |cons x r=>simp
end
section
variable{G:Gr}{s:Nat}
theorem b2M{n:Nat}(h:Yr G n [s]≠[]):Yr G n [s]∈Wy G s n/\nd G (Yr G n [s])=G.F s:=by
 have hw:=c5x (G:=G) n (l:=[s]) (by simp);rw[c2x]at hw
 cases hf:(Wy G s n).find? fun p=>cl G ([s].headD 0) (nd G p)with
 |none=>rw[hf]at hw;exact absurd hw h
 |some p=>
  rw[hf]at hw;rw[hw];refine⟨a8V hf,?_⟩;have:=List.find?_some hf;simpa[cl]using this
theorem qC(hs:s<G.m)(h:XG G s≠[]):∃D,Way G s D (XG G s)/\nd G (XG G s)=G.F s:=by
 obtain⟨n,h1,h2,h3⟩:=b3p h;have O4:XG G s=Yr G n [s]:=h2;rw[O4]at h⊢;obtain⟨g1,g2⟩:=b2M h;exact⟨n,c1z hs g1,g2⟩
theorem b4M(h:G.T s=G.F s):XG G s=[s]:=by
 have h0:Yr G 0 [s]=[s]:=by
  show(if G.T s=G.F s then[s]else[])=[s]
  rw[if_pos h]
 have:=b1p (f:=fun n=>Yr G n [s]) (i:=0) (n:=G.m+1) (fun j hj=>by omega) (by omega) (by rw[h0];simp);rw[h0]at this;exact this
theorem b5M(h:∀D,Open G s D):XG G s=[]:=b0p _ fun i _=>by
 rw[c6x (h i),h (i+1) i (by omega)];rfl
theorem b6M(hs:s<G.m){D:Nat}{p:List Nat}(ho:Open G s D)(hf:(Ly G s D).find? (fun p=>cl G s (nd G p))=some p):XG G s=p:=by
 have hw:=rB hs (a8V hf)
 have h3:Yr G D [s]=p:=by rw[c6x ho,hf];rfl
 have:=b1p (f:=fun n=>Yr G n [s]) (i:=D) (n:=G.m+1) (fun j hj=>by
  rw[c6x fun d' NL=>ho d' (by omega),ho j hj];rfl) (by have:=hw.lt;omega) (by rw[h3];exact hw.ne)
 rw[h3]at this;exact this
theorem b7M(hs:s<G.m)(ZS:G.T s≠G.F s):∃K b g,QV G (G.F s) K [G.T s] [(G.T s, -1)]=some (b,g)∧
 ((b=false/\XG G s=[])\/(b=true/\∃K2,Ll G g K2 (G.F s)=some (XG G s).tail.reverse/\∃D,Way G s D (XG G s))):=by
 have ho:Open G s (0+1):=by
  intro d' NL
  have:d'=0:=by omega
  subst this
  refine c0A.1 fun q hq=>?_
  have V0:q∈[[s]]:=hq;simp only[a2z]at V0;subst V0;exact ZS
 obtain⟨b,g,h1,h2⟩:=run hs (G.m+1) 0 ho (.inr (by omega));refine⟨_,b,g,h1,?_⟩
 rcases h2 with⟨rfl,D,p,h3,h4,h5⟩|⟨rfl,h3⟩
 ·have:=b6M hs h3 h4;rw[this];exact .inr ⟨rfl,D,h5,D,rB hs (a8V h4)⟩
 ·exact .inl ⟨rfl,b5M h3⟩
theorem b8M(hs:s<G.m):∃d,Ly G s d=[]:=a9M fun hn=>by
 have h:∀d,d+1<=(Sv G s d).length:=by
  intro d
  induction d with
  |zero=>show 1<=[G.T s].length;simp
  |succ d ih=>
   rw[ES,a7J,a6S]
   have:Ly G s (d+1)≠[]:=fun h=>hn ⟨_,h⟩
   have:=a6I.2 this;omega
 have:=h G.m;have:=c6z hs G.m;omega
theorem b9M:∀d,G.T s∈Sv G s d
 | 0=>by show G.T s∈[G.T s];simp
 |d+1=>by rw[ES];exact a6O _ (b9M d)
theorem b0N(hs:s<G.m)(h:XG G s=[]):∃C:List Int,G.T s∈C/\G.F s∉C/\∀a b,a∈C->NQ G a b->b∈C:=by
 have ho:∀D,Open G s D:=by
  intro D
  induction D with
  |zero=>intro d' h;omega
  |succ D ih=>
   intro d' NL
   by_cases hd:d'<D
   ·exact ih d' hd
   ·have:d'=D:=by omega
    subst this
    cases hf:(Ly G s d').find? (fun p=>cl G s (nd G p))with
    |none=>rfl
    |some p=>
     have:=b6M hs ih hf;rw[h]at this;have hw:=rB hs (a8V hf);exact absurd this.symm hw.ne
 obtain⟨d,hd⟩:=b8M hs;have hl:=lay G s d
 have he:∀x,x∈Sv G s d->x∈Er G s d:=fun x hx=>by
  rcases(hl.c4 x).1 hx with h|⟨p,hp,_⟩
  ·exact h
  ·rw[hd]at hp;cases hp
 refine⟨Sv G s d,b9M d,fun hF=>?_,fun a b ha Nv=>hl.c3 a (he a ha) b Nv⟩;have:=c9w (ho d) _ (he _ hF);simp[cl]at this
theorem b1N{α:Type}{l:List α}{j:Nat}{x:α}(h:l[j]? =some x):l.take (j+1)=l.take j++[x]:=by
 rw[a1J,h];rfl
theorem b2N{α:Type}{l:List α}{j:Nat}{x:α}(h:l[j]? =some x):l.drop j=x::l.drop (j+1):=by
 have hl:=(a7y.1 h).1;rw[List.drop_eq_getElem_cons hl,(a7y.1 h).2]
theorem b3N{n j:Nat}(h:j<n):(a0I n)[j]? =some j:=by simp[h]
theorem b4N{j:Nat}(h:j<G.m)(n:Int)(st:Fm×List Int):N6 G n ((a0I G.m).take (j+1)) st=O2 G n (N6 G n ((a0I G.m).take j) st) j:=by
 unfold N6;rw[b1N (b3N h),a3U];rfl
theorem b5N{c:List Int}{j:Nat}{n:Int}(h:c[j]? =some n)(st:Fm×List Int):WM G (c.take (j+1)) st=N6 G n (a0I G.m) (WM G (c.take j) st):=by
 unfold WM;rw[b1N h,a3U];rfl
theorem b6N{j:Nat}(h:j<G.m)(dst n:Int)(st:Fm×List Int):Nr G dst n ((a0I G.m).drop j) st=
 if G.ok j=true/\G.F j=n/\XA st.1 (G.T j)=none then(if G.T j=dst then(true,O2 G n st j)else Nr G dst n ((a0I G.m).drop (j+1)) (O2 G n st j))else Nr G dst n ((a0I G.m).drop (j+1)) st:=by
 rw[b2N (b3N h)];rfl
theorem b7N{c:List Int}{j:Nat}{n:Int}(h:c[j]? =some n)(dst:Int)(st:Fm×List Int):Nq G dst (c.drop j) st=
 if(Nr G dst n (a0I G.m) st).1=true then Nr G dst n (a0I G.m) st else Nq G dst (c.drop (j+1)) (N6 G n (a0I G.m) st):=by
 rw[b2N h];rfl
structure Lk (G:Gr) (s:Nat) (f:Fm):Prop where
 nodup:(f.map (·.1)).Nodup
 sub:∀x,x∈f.map (·.1)->x∈(a0I G.m).map G.T
 val:∀k i,(k,i)∈f->i<G.m
theorem Lk.len{f:Fm}(h:Lk G s f):f.length<=G.m:=by
 have:=c3z h.nodup h.sub;simpa using this
def ER(G:Gr)(s n:Nat)(st:Fm×List Int):Prop:=Lk G s st.1/\st.1.length=n+st.2.length
theorem b8N{c:Nat}{n:Int}{k:Nat}(hk:k<G.m){st:Fm×List Int}(h:ER G s c st):ER G s c (O2 G n st k):=by
 unfold O2;split
 ·rename_i g;refine⟨⟨?_,?_,?_⟩,?_⟩
  ·rw[a6M,b5m];refine⟨h.1.nodup,by simp,fun a ha b hb=>?_⟩;simp only[a0G,a8U,a2z]at hb;subst hb;rintro rfl;exact b5p.1 g.2.2 ha
  ·intro x hx;rw[a6M]at hx
   rcases a1E.1 hx with hx|hx
   ·exact h.1.sub x hx
   ·simp only[a0G,a8U,a2z]at hx;subst hx;exact a3E.2 ⟨k,a4U.2 hk,rfl⟩
  ·intro a i hi
   rcases a1E.1 hi with hi|hi
   ·exact h.1.val a i hi
   ·simp only[a2z,Prod.mk.injEq]at hi;rw[hi.2];omega
  ·simp only[a7J,c9E];have:=h.2;omega
 ·exact h
theorem b9N{c:Nat}{n:Int}(ks:List Nat):∀{st:Fm×List Int},(∀k,k∈ks->k<G.m)->ER G s c st->ER G s c (N6 G n ks st):=by
 induction ks with
 |nil=>intro st _ h;exact h
 |cons k l ih=>intro st hk h;exact ih (fun x hx=>hk x (a2C _ hx)) (b8N (hk k a8C) h)
theorem b0O{m:Nat}(c:List Int):∀{st:Fm×List Int},ER G s m st->ER G s m (WM G c st):=by
 induction c with
 |nil=>intro st h;exact h
 |cons k l ih=>intro st h;exact ih (b9N _ (fun x hx=>a4U.1 hx) h)
theorem ER.len{n:Nat}{st:Fm×List Int}(h:ER G s n st):st.2.length<=G.m:=by have:=h.1.len;have:=h.2;omega
end
def JE(G:Gr)(first:Nat->Bool):List Nat:=Vn (fun i=>if first i then XG G i else[]) G.m
theorem b1O{G:Gr}{first:Nat->Bool}(h:JE G first≠[]):∃i,i<G.m/\first i=true/\JE G first=XG G i/\XG G i≠[]/\∀j,j<i->first j=true->XG G j=[]:=by
 obtain⟨i,h1,h2,h3⟩:=b3p h
 have O4:JE G first=if first i then XG G i else[]:=h2
 cases hi:first i with
 |false=>rw[hi]at O4;exact absurd O4 h
 |true=>
  rw[hi,if_pos rfl]at O4;refine⟨i,h1,hi,O4,O4▸h,fun j hj hf=>?_⟩;have:=h3 j hj;simpa[hf]using this
theorem b2O{G:Gr}{first:Nat->Bool}(h:JE G first=[]){i:Nat}(hi:i<G.m)(hf:first i=true):XG G i=[]:=by
 have:=b2p h i hi;simpa[hf]using this
end Go.Rt
end
