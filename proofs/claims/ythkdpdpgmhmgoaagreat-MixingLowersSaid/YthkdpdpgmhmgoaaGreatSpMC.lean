/- Contracts of functions of the program, and what they lean on. Conditions: those of each theorem. -/
import Derived.Test.YthkdpdpgmhmgoaaGreatSpMB
import Derived.ProofKit
import Derived.WalkKit
import Derived.OpenShut
import Derived.ShutString
import Derived.ChangeOld
import Derived.Below
import Derived.Carry
import Derived.Test.YthkdpdpgmhmgoaaGreatProg
import Derived.Sort.Grow
import Derived.Lib.SlicesCompact

set_option linter.unusedVariables false
set_option linter.unusedSimpArgs false
set_option maxHeartbeats 64000000
set_option maxRecDepth 100000
open Array renaming getElem?_toList->a1E,getD_eq_getD_getElem?->a3E,getElem?_eq_getElem->a3N,getElem?_modify->a5N,size_mapIdx->b2P,getElem_mapIdx->c5W
open Bool renaming and_eq_true->a3C,eq_iff_iff->b4H,or_false->c7R
open ByteArray.mk renaming injEq->d4S
open Classical renaming choose->b7G,choose_spec->b2K,propDecidable->b8I,not_not->d5T
open Function renaming comp_def->b7A
open Iff renaming rfl->c8O
open List renaming all_cons->b0w,mem_cons_self->a4E,mem_cons_of_mem->a9C,mem_cons->a5E,all_eq_true->a8C,any_eq_true->b9G,map_cons->a0I,getElem?_map->a1C,mem_of_getElem?->a6y,map_congr_left->b5n,map_map->b2Z,map_id->c7N,mem_append->a9E,mapM_cons->a0Q,getElem?_cons_zero->a0F,getD->a7V,getElem?_append_left->a9L,getElem?_append_right->a7U,nil_append->b3H,contains_eq_mem->d6d,mem_append_left->a7N,length_map->a5O,range->a7I,getElem?_eq_some_iff->a5y,mem_map->a0E,getElem?_of_mem->a9B,getElem?_cons_succ->a5J,append_nil->b9o,replicate->a2N,filter_cons->b2p,contains_iff_mem->a6M,map_nil->a9U,any_cons->c9B,mem_filter->a2E,getElem?_eq_getElem->a4G,take_of_length_le->a0z,getD_eq_getElem?_getD->a7S,length_pos_iff->a6I,size_toArray->b7r,getElem?_eq_none_iff->c1Q,length_append->a7J,mem_range->a6V,pairwise_iff_getElem->b5K,length_filter_le->a0V,findIdx?_eq_some_iff_getElem->c1C,findIdx?_eq_none_iff->c2Q,take->a1V,drop->c5P,take_add_one->a3I,mem_singleton->a1B,cons_append->b4O,find?->d5S,nodup_cons->b2H,find?_cons->c4y,flatMap_cons->b0m
open List.Pairwise renaming filter->d5R
open Nat renaming zero_le->c0t,le_refl->a8F,le_add_right->c9K,zero_add->b5D,sub_zero->d1R,zero_mul->d3R,add_zero->b1H,mul_one->c0Q
open Option renaming bind_eq_some_iff->b6v,map_eq_some_iff->a9R,getD_some->a1J,map_some->a8H
open Option.some renaming injEq->a3y
open Prod renaming fst->d3T

section
namespace Go.Vm
def KP(W:St->Yr->Prop)(s:St)(O:Yr):Prop:=
 ∃I:Nat->St->Prop,HX s (fun s'=>∃k,I k s')/\∀k s',I k s'->W s' {O with n:=fun s2=>∃m s3,m<k/\Le s2 s3/\I m s3}
def X7(P:Program):Z9->St->Yr->Prop
 | .skip,s,O=>O.n s
 | .Dl ops,s,O=>Ui P ops s O.n
 | .any t,s,O=>Tk P t s O.n
 | .seq a b,s,O=>X7 P a s {O with n:=fun s'=>X7 P b s' O}
 | .cond x t e,s,O=>match s.ev x with
  | .iv (.v (.bool b))=>(b=true->X7 P t s O)/\(b=false->X7 P e s O)
  | _=>False
 | .block id c,s,O=>X7 P c s {O with x:=fun j s'=>if j=id then O.n s' else O.x j s'}
 | .loop c,s,O=>KP (X7 P c) s O
 | .exit id,s,O=>O.x id s
 | .ret,s,O=>O.r s
 | .goto l,s,O=>O.g l s
 | .scope c,s,O=>X7 P c s {O with g:=fun _ _=>False}
 | .WC c l r,s,O=>X7 P c s {O with g:=fun l' s'=>l'=l/\X7 P r s' {O with g:=fun _ _=>False}}
 | .QB g ps x y,s,O=>MI P (X7 P x) (X7 P y) g ps s O
theorem Tj{P:Program}{n:Nat}(hn:n<=999):∀(c:Z9) (s:St) (O:Yr),X7 P c s O->VC P n c s O
 | .skip,s,O,h=>c3C h
 | .Dl ops,s,O,h=>c9C hn h
 | .any t,s,O,h=>c0D hn h
 | .seq a b,s,O,h=>c8C ((Tj hn a s _ h).mono (fun s' h=>Tj hn b s' O h) (fun _ _ h=>h) (fun _ h=>h) (fun _ _ h=>h))
 | .cond x t e,s,O,h=>by
  simp only[X7]at h;split at h
  ·rename_i b hb;exact c1D hb (fun ht=>Tj hn t s O (h.1 ht)) (fun he=>Tj hn e s O (h.2 he))
  ·exact h.elim
 | .block id c,s,O,h=>c2D (Tj hn c s _ h)
 | .loop c,s,O,h=>by
  obtain⟨I,h0,hr⟩:=h
  exact c6D I h0 fun k s' hI=>Tj hn c s' _ (hr k s' hI)
 | .exit id,s,O,h=>c4C h
 | .ret,s,O,h=>c5C h
 | .goto l,s,O,h=>c6C h
 | .scope c,s,O,h=>c3D (Tj hn c s _ h)
 | .WC c l r,s,O,h=>c4D (fun s'=>X7 P r s' {O with g:=fun _ _=>False}) (Tj hn c s _ h) (fun s' h=>Tj hn r s' _ h)
 | .QB g ps x y,s,O,h=>e4y (e2y (fun s O h=>Tj hn x s O h) (fun s O h=>Tj hn y s O h) (fun h1 h2 h3 h4 h=>VC.mono h h1 h2 h3 h4) h)
theorem d8n{P:Program}{o:Yd}{s:St}{K K':St->Prop}(hK:∀s,K s->K' s)(YD:∀d (s:St) (K K':St->AV->Prop),(∀s x,K s x->K' s x)->∀r,ZQ P d s K r->ZQ P d s K' r)(h:VA P o s K):VA P o s K':=by
 unfold VA at*;split at h
 ·exact YD _ _ _ _ (fun s x h=>hK _ h) _ h
 ·split at h
  ·exact⟨fun hc=>YD _ _ _ _ (fun s x h=>hK _ h) _ (h.1 hc),fun hc=>hK _ (h.2 hc)⟩
  ·exact hK _ h
  ·exact h.elim
section
variable{P:Program}{s s':St}{O:Yr}
@[congr]theorem d9n{c:Z9}(h:s=s'):X7 P c s O=X7 P c s' O:=by rw[h]
@[congr]theorem d0o{l:List Yd}{K:St->Prop}(h:s=s'):Ui P l s K=Ui P l s' K:=by rw[h]
@[congr]theorem d1o{o:Yd}{K:St->Prop}(h:s=s'):VA P o s K=VA P o s' K:=by rw[h]
@[congr]theorem d2o{t:VT}{K:St->Prop}(h:s=s'):Tk P t s K=Tk P t s' K:=by rw[h]
@[congr]theorem d3o{d:Nat}{r:V7}{K:St->AV->Prop}(h:s=s'):ZQ P d s K r=ZQ P d s' K r:=by rw[h]
@[congr]theorem d4o{W:St->Yr->Prop}(h:s=s'):KP W s O=KP W s' O:=by rw[h]
@[congr]theorem d5o{d:Nat}{f:FuncId}{pre post:List Z3}{ops:List Operand}{y:Option Operand}{K:St->AV->Prop}(h:s=s'):
 KQ P d f pre ops post y s K=KQ P d f pre ops post y s' K:=by rw[h]
@[congr]theorem d6o{fr:Bool}{rs:List Sp}{res:AV}{H':Hp}(h:s=s'):Ends fr rs res H' s=Ends fr rs res H' s':=by rw[h]
theorem St.set_mk(fr:List (Nat×AV))(hp:Hp)(d:Nat)(x:AV):St.set ⟨fr,hp⟩ d x=⟨(d,x)::fr,hp⟩:=rfl
end
/-! ### g8P that say less-/
def St.ZR(s:St)(D:List Nat):St:=D.foldl (fun s i=>s.drop i) s
theorem Sg(D:List Nat)(hD:D.all (· <1000)=true)(s:St):Le s (s.ZR D):=by
 induction D generalizing s with
 |nil=>exact Le.refl s
 |cons i D ih=>
  simp only[b0w,a3C,decide_eq_true_eq]at hD;refine Le.trans (fun E n a w h=>?_) (ih hD.2 (s.drop i));obtain⟨ψ,h⟩:=h;exact⟨ψ,h.drop hD.1⟩
theorem d8o{s s':St}(hf:∀t,s'.get t= .junk\/s'.get t=s.get t)(hh:∀id,look s'.hp id=look s.hp id):Le s s':=by
 rintro E n a w ⟨ψ,h⟩
 have hI:∀b,Im E ψ s.hp b->Im E ψ s'.hp b:=fun b hb=>⟨hb.1,fun hx=>hb.2 ((d0f hh b).1 hx)⟩
 have hk:U8 ψ ψ s.hp s'.hp:=fun id o ho=>⟨⟨o,by rw[hh];exact ho,o.le_refl⟩,rfl⟩
 refine⟨ψ,{h with defers:=h.defers.mono (fun b _ hb=>hI b hb) (fun _ _ _=>rfl),frame:=fun t=>?_,YC:=fun id o ho=>?_,inj:=fun id XK o o' b g1 g2=>?_,own:=fun id o b ho=>?_,YU:=fun id o b ho=>?_}⟩
 ·rcases hf t with e|e
  ·rw[e];exact .junk _
  ·rw[e];exact(h.frame t).mono (fun b _ hb=>hI b hb) (fun _ _ _=>rfl) hk
 ·rw[hh]at ho;exact(h.YC id o ho).mono (fun b _ hb=>hI b hb) (fun _ _ _=>rfl) hk ⟨rfl,fun _ h=>h⟩ (fun _ _=>rfl)
 ·rw[hh]at g1 g2;exact h.inj id XK o o' b g1 g2
 ·rw[hh]at ho;exact h.own id o b ho
 ·rw[hh]at ho;exact h.YU id o b ho
theorem d9o{α:Type}:∀{l:List (Nat×α)} {k:Nat},(∀p∈l,p.1≠k)->look l k=none
 | [],_,_=>rfl
 |(j,y)::r,k,h=>by
  simp only[look];rw[if_neg (h (j,y) a4E)]
  exact d9o fun p hp=>h p (a9C _ hp)
def MO(s:St):List (Nat×AV)->Prop
 | []=>True
 |(t,x)::r=>s.get t=x/\MO s r
def RJ(H:Hp):Hp->Prop
 | []=>True
 |(id,o)::r=>look H id=some o/\RJ H r
theorem d0p{s:St}:∀{l:List (Nat×AV)},MO s l->∀p∈l,s.get p.1=p.2
 | [],_,p,hp=>by cases hp
 |(t,x)::r,h,p,hp=>by
  rcases a5E.1 hp with rfl|hp
  ·exact h.1
  ·exact d0p h.2 p hp
theorem d1p{H:Hp}:∀{l:Hp},RJ H l->∀p∈l,look H p.1=some p.2
 | [],_,p,hp=>by cases hp
 |(t,x)::r,h,p,hp=>by
  rcases a5E.1 hp with rfl|hp
  ·exact h.1
  ·exact d1p h.2 p hp
def d2p(H:Hp)(l:Hp):Bool:=H.all fun p=>l.any fun q=>q.1==p.1
theorem f7S{H l:Hp}(h1:RJ H l)(h2:d2p H l=true)(id:Nat):look l id=look H id:=by
 cases hl:look l id with
 |some o=>exact(d1p h1 _ (CN hl)).symm
 |none=>
  refine(d9o fun p hp e=>?_).symm;subst e;have:=a8C.1 h2 p hp;obtain⟨q,hq,e⟩:=b9G.1 this;simp only[beq_iff_eq]at e
  have:∀{l:Hp},q∈l->look l p.1≠none:=by
   intro l
   induction l with
   |nil=>intro h;cases h
   |cons x l ih=>
    obtain⟨j,y⟩:=x;intro h;simp only[look];split
    ·simp
    ·rcases a5E.1 h with rfl|h
     ·rename_i ZV;exact absurd e ZV
     ·exact ih h
  exact this hq hl
theorem f5M(D:List Nat){s s':St}(hD:D.all (· <1000)=true)(hf:MO (s.ZR D) s'.fr)(hh:RJ (s.ZR D).hp s'.hp)(hk:d2p (s.ZR D).hp s'.hp=true):Le s s':=by
 refine Le.trans (Sg D hD s) (d8o (fun t=>?_) (f7S hh hk))
 cases hl:look s'.fr t with
 |none=>left;simp[St.get,hl]
 |some x=>
  right;have:=d0p hf _ (CN hl);simp only at this;rw[this];simp[St.get,hl]
structure Ren where
 to:Nat->Nat
 inv:Nat->Nat
 VB:∀x,to (inv x)=x
 Xa:∀x,inv (to x)=x
def Ren.back(ρ:Ren):Ren:=⟨ρ.inv,ρ.to,ρ.Xa,ρ.VB⟩
def CP(a b x:Nat):Nat:=if x=a then b else if x=b then a else x
theorem a4y(a b x:Nat):CP a b (CP a b x)=x:=by
 unfold CP
 by_cases h1:x=a
 ·subst h1
  by_cases h2:b=x
  ·subst h2;simp
  ·simp[h2]
 ·by_cases h2:x=b
  ·subst h2;simp[h1]
  ·simp[h1,h2]
def Ren.swap(a b:Nat):Ren:=⟨CP a b,CP a b,a4y a b,a4y a b⟩
def Ren.id:Ren:=⟨fun x=>x,fun x=>x,fun _=>rfl,fun _=>rfl⟩
def Ren.comp(ρ σ:Ren):Ren:=⟨fun x=>σ.to (ρ.to x),fun x=>ρ.inv (σ.inv x),fun x=>by simp[ρ.VB,σ.VB],fun x=>by simp[ρ.Xa,σ.Xa]⟩
def Ren.Xe:List (Nat×Nat)->Ren
 | []=>Ren.id
 |(a,b)::r=>(Ren.swap a b).comp (Ren.Xe r)
def Z3.Zl(ρ:Nat->Nat):Z3->Z3
 | .ptr id off=> .ptr (ρ id) off
 | .val x=> .val x
def AV.VX(ρ:Nat->Nat):AV->AV
 | .sl id sz lo len=> .sl (ρ id) sz lo len
 | .ptr id off=> .ptr (ρ id) off
 | .ep id sz i off=> .ep (ρ id) sz i off
 | .mpr id=> .mpr (ρ id)
 | .fn f a b=> .fn f (a.map (Z3.Zl ρ)) (b.map (Z3.Zl ρ))
 |x=>x
def AV.VW(ρ:Nat->Nat):AV->AV
 | .agg cs=> .agg (cs.map (AV.VX ρ))
 |x=>x.VX ρ
def AV.Zl(ρ:Nat->Nat):AV->AV
 | .Zp cs=> .Zp (cs.map (AV.VW ρ))
 |x=>x.VW ρ
def Ob.Zl(ρ:Nat->Nat):Ob->Ob
 | .box cs=> .box (cs.map (AV.VX ρ))
 | .gh Z vs cs=> .gh Z vs (cs.map (AV.Zl ρ))
 | .YN org sz xs=> .YN (ρ org) sz xs
 |o=>o
def Hp.Zl(ρ:Nat->Nat)(H:Hp):Hp:=H.map fun p=>(ρ p.1,p.2.Zl ρ)
def Pl.Zl(ρ:Ren)(ψ:Pl):Pl:=⟨fun j=>ψ (ρ.inv j),fun j b=>ψ.sub (ρ.inv j) b⟩
def AV.Va:AV->Bool
 | .agg _| .Zp _=>false
 | _=>true
def AV.Vo:AV->Bool
 | .agg cs=>cs.all AV.Va
 | .Zp _=>false
 | _=>true
def AV.WV:AV->Bool
 | .Zp cs=>cs.all AV.Vo
 |x=>x.Vo
def Ob.WV:Ob->Bool
 | .box cs=>cs.all AV.Va
 | .gh _ _ cs=>cs.all AV.WV
 | _=>true
section
variable(ρ:Ren)
theorem CO(H:Hp)(id:Nat):look (H.Zl ρ.to) (ρ.to id)=(look H id).map (Ob.Zl ρ.to):=by
 induction H with
 |nil=>rfl
 |cons p H ih=>
  obtain⟨j,o⟩:=p;simp only[Hp.Zl,a0I,look]
  by_cases h:j=id
  ·subst h;simp
  ·rw[if_neg h,if_neg (fun e=>h (by have:=congrArg ρ.inv e;simpa[ρ.Xa]using this))]
   exact ih
theorem oV(H:Hp)(id:Nat):look (H.Zl ρ.to) id=(look H (ρ.inv id)).map (Ob.Zl ρ.to):=by
 have:=CO ρ H (ρ.inv id);rwa [ρ.VB]at this
theorem a7y(f:Nat->Nat)(o:Ob):(o.Zl f).dim=o.dim:=by cases o<;>rfl
theorem a8y(f:Nat->Nat)(o:Ob):(o.Zl f).multi=o.multi:=by cases o<;>rfl
theorem a9y(f:Nat->Nat)(o:Ob):(o.Zl f).Zf=o.Zf:=by cases o<;>rfl
theorem mU(ψ:Pl)(id:Nat):(ψ.Zl ρ) (ρ.to id)=ψ id:=by simp[Pl.Zl,ρ.Xa]
theorem a1z(ψ:Pl)(id b:Nat):ZZ (ψ.Zl ρ) (ρ.to id) b↔ZZ ψ id b:=by simp[ZZ,Pl.Zl,ρ.Xa]
variable{A:Nat->Prop}{ψ:Pl}{H:Hp}{w:World}
theorem W9.Zl{c:Z3}{v:Value}(h:W9 A ψ H w c v):W9 A (ψ.Zl ρ) (H.Zl ρ.to) w (c.Zl ρ.to) v:=by
 cases h with
 |ptr id off b k o ho hb=>exact .ptr (ρ.to id) off b k (o.Zl ρ.to) (by rw[CO,ho];rfl) (by rw[mU];exact hb)
 |val x v h=>exact .val x v h
theorem ZL.VX{x:AV}{v:Value}(h:ZL A ψ H w x v)(hs:x.Va=true):ZL A (ψ.Zl ρ) (H.Zl ρ.to) w (x.VX ρ.to) v:=by
 cases h with
 |iv x v h=>exact .iv x v h
 |nil sz=>exact .nil sz
 |UR id sz o n ho he hb=>exact .UR (ρ.to id) sz (o.Zl ρ.to) n (by rw[CO,ho];rfl) (by rw[a7y];exact he) (by rw[mU];exact hb)
 |sl id sz lo len b k cap a o n ho he hx hb ha Vc hk hm=>
  exact .sl (ρ.to id) sz lo len b k cap a (o.Zl ρ.to) n (by rw[CO,ho];rfl) (by rw[a7y];exact he) hx (by rw[mU];exact hb) ha Vc hk hm
 |ptr id off b k o ho hb=>exact .ptr (ρ.to id) off b k (o.Zl ρ.to) (by rw[CO,ho];rfl) (by rw[mU];exact hb)
 |ep id sz i off b k o n ho he hi hb=>exact .ep (ρ.to id) sz i off b k (o.Zl ρ.to) n (by rw[CO,ho];rfl) (by rw[a7y];exact he) hi (by rw[mU];exact hb)
 |mpr id b k o ho hb=>exact .mpr (ρ.to id) b k (o.Zl ρ.to) (by rw[CO,ho];rfl) (by rw[mU];exact hb)
 |fn f first caps vf vc hf hc h1 h2=>
  refine .fn f _ _ vf vc (by simpa using hf) (by simpa using hc) (fun i c h=>?_) (fun i c h=>?_)<;>rw[a1C]at h
  ·cases hi:first[i]? with
   |none=>rw[hi]at h;cases h
   |some c0=>rw[hi]at h;cases h;exact(h1 i c0 hi).Zl ρ
  ·cases hi:caps[i]? with
   |none=>rw[hi]at h;cases h
   |some c0=>rw[hi]at h;cases h;exact(h2 i c0 hi).Zl ρ
 |agg cs vs hl h=>cases hs
 |Zp cs vs hl h=>cases hs
 |un=>exact .un
 |junk v=>exact .junk v
theorem ZL.VW{x:AV}{v:Value}(h:ZL A ψ H w x v)(hs:x.Vo=true):ZL A (ψ.Zl ρ) (H.Zl ρ.to) w (x.VW ρ.to) v:=by
 cases x with
 |agg cs=>
  cases h with
  |agg cs vs hl h=>
   refine .agg _ vs (by simpa using hl) fun i c hc=>?_
   rw[a1C]at hc
   cases hi:cs[i]? with
   |none=>rw[hi]at hc;cases hc
   |some c0=>rw[hi]at hc;cases hc;exact(h i c0 hi).VX ρ (a8C.1 hs c0 (a6y hi))
 |Zp cs=>cases hs
 | _=>exact h.VX ρ rfl
theorem ZL.Zl{x:AV}{v:Value}(h:ZL A ψ H w x v)(hs:x.WV=true):ZL A (ψ.Zl ρ) (H.Zl ρ.to) w (x.Zl ρ.to) v:=by
 cases x with
 |Zp cs=>
  cases h with
  |Zp cs vs hl h=>
   refine .Zp _ vs (by simpa using hl) fun i c hc=>?_
   rw[a1C]at hc
   cases hi:cs[i]? with
   |none=>rw[hi]at hc;cases hc
   |some c0=>rw[hi]at hc;cases hc;exact(h i c0 hi).VW ρ (a8C.1 hs c0 (a6y hi))
 | _=>exact h.VW ρ hs
theorem WU.Zl{id:Nat}{o:Ob}(h:WU A ψ H w id o)(hs:o.WV=true):WU A (ψ.Zl ρ) (H.Zl ρ.to) w (ρ.to id) (o.Zl ρ.to):=by
 have VY:(ψ.Zl ρ) (ρ.to id)=ψ id:=mU ρ ψ id
 have Y9:∀b,ψ.sub id b->(ψ.Zl ρ).sub (ρ.to id) b:=fun b hb=>by simpa[Pl.Zl,ρ.Xa]using hb
 cases o with
 |box cs=>
  obtain⟨b,c,e,h1,h2,h3,h4⟩:=h;refine⟨b,c,e,by rw[VY];exact h1,h2,by simpa using h3,fun i x hx=>?_⟩;rw[a1C]at hx
  cases hi:cs[i]? with
  |none=>rw[hi]at hx;cases hx
  |some c0=>rw[hi]at hx;cases hx;exact(h4 i c0 hi).VX ρ (a8C.1 hs c0 (a6y hi))
 |list sz xs=>
  obtain⟨h0,h⟩:=h;refine⟨h0,?_⟩
  rcases h with⟨h1,h2⟩|⟨b,k,c,e,h1,h2⟩
  ·exact .inl ⟨by rw[VY];exact h1,h2⟩
  ·exact .inr ⟨b,k,c,e,by rw[VY];exact h1,h2⟩
 |YN org sz xs=>
  obtain⟨h0,h⟩:=h;refine⟨h0,?_⟩
  rcases h with⟨h1,h2⟩|⟨b,k,c,e,h1,h2⟩
  ·exact .inl ⟨by rw[VY];exact h1,h2⟩
  ·exact .inr ⟨b,k,c,e,by rw[VY];exact h1,h2⟩
 |map sk g=>obtain⟨b,es,clock,h1,h2⟩:=h;exact⟨b,es,clock,by rw[VY];exact h1,h2⟩
 |WE sk g n kk=>obtain⟨b,es,clock,h1,h2⟩:=h;exact⟨b,es,clock,by rw[VY];exact h1,h2⟩
 |YA sk sz g hole=>
  obtain⟨b,es,clock,pl,h1,h2,h3,h4,h5,h6,h7,h8,h9,UI,Tl⟩:=h;exact⟨b,es,clock,pl,by rw[VY];exact h1,h2,h3,h4,h5,h6,h7,h8,h9,fun k xs b' q g1 g2=>Y9 _ (UI k xs b' q g1 g2),Tl⟩
 |ZI sz xs hole=>
  obtain⟨h0,b,k,c,e,pl,h1,h2,h3,h4,h5,h6,h7⟩:=h;exact⟨h0,b,k,c,e,pl,by rw[VY];exact h1,h2,h3,h4,h5,fun i x b' q g1 g2 g3=>Y9 _ (h6 i x b' q g1 g2 g3),h7⟩
 |iter sk g left last=>obtain⟨b,m,si,st,la,h1,h2⟩:=h;exact⟨b,m,si,st,la,by rw[VY];exact h1,h2⟩
 |gh Z vs cs=>
  obtain⟨h1,h2,h3,h4⟩:=h;refine⟨by rw[VY];exact h1,h2.mono (fun _ _ h=>h) Y9 (fun _ _ _=>rfl) (fun _ _=>rfl),by simpa using h3,fun i x hx=>?_⟩
  rw[a1C]at hx
  cases hi:cs[i]? with
  |none=>rw[hi]at hx;cases hx
  |some c0=>rw[hi]at hx;cases hx;exact(h4 i c0 hi).Zl ρ (a8C.1 hs c0 (a6y hi))
end
/-! ### Hd and back-/
theorem a2z(ρ:Ren)(c:Z3):(c.Zl ρ.to).Zl ρ.inv=c:=by cases c<;>simp[Z3.Zl,ρ.Xa]
theorem a3z(ρ:Ren)(x:AV):(x.VX ρ.to).VX ρ.inv=x:=by
 cases x<;>simp[AV.VX,ρ.Xa]
 constructor
 ·rw[b5n (g:=id) (fun c _=>by simp[a2z])];simp
 ·rw[b5n (g:=id) (fun c _=>by simp[a2z])];simp
theorem a4z{α:Type}{f g:α->α}(h:∀x,g (f x)=x)(l:List α):(l.map f).map g=l:=by
 rw[b2Z];have:g∘f=id:=funext h;rw[this,c7N]
theorem a5z(f:Nat->Nat){x:AV}(h:∀cs,x≠ .agg cs):x.VW f=x.VX f:=by cases x<;>first|rfl|exact absurd rfl (h _)
theorem a6z(f:Nat->Nat){x:AV}(h:∀cs,x≠ .Zp cs):x.Zl f=x.VW f:=by cases x<;>first|rfl|exact absurd rfl (h _)
theorem a7z(f:Nat->Nat){x:AV}(h:∀cs,x≠ .agg cs):∀cs,x.VX f≠ .agg cs:=by cases x<;>first|exact absurd rfl (h _)|(intro cs e;cases e)
theorem a8z(f:Nat->Nat){x:AV}(h:∀cs,x≠ .Zp cs):∀cs,x.VW f≠ .Zp cs:=by cases x<;>first|exact absurd rfl (h _)|(intro cs e;cases e)
theorem a9z(ρ:Ren)(x:AV):(x.VW ρ.to).VW ρ.inv=x:=by
 by_cases h:∃cs,x= .agg cs
 ·obtain⟨cs,rfl⟩:=h;simp only[AV.VW,a4z (a3z ρ)]
 ·have h:∀cs,x≠ .agg cs:=fun cs e=>h ⟨cs,e⟩
  rw[a5z _ h,a5z _ (a7z _ h),a3z]
theorem a0A(ρ:Ren)(x:AV):(x.Zl ρ.to).Zl ρ.inv=x:=by
 by_cases h:∃cs,x= .Zp cs
 ·obtain⟨cs,rfl⟩:=h;simp only[AV.Zl,a4z (a9z ρ)]
 ·have h:∀cs,x≠ .Zp cs:=fun cs e=>h ⟨cs,e⟩
  rw[a6z _ h,a6z _ (a8z _ h),a9z]
theorem a1A(ρ:Ren)(o:Ob):(o.Zl ρ.to).Zl ρ.inv=o:=by
 cases o<;>first|rfl|simp[Ob.Zl,ρ.Xa, -b2Z,a4z (a3z ρ),a4z (a0A ρ)]
theorem a2A(ρ:Ren)(H:Hp):(H.Zl ρ.to).Zl ρ.inv=H:=by
 induction H with
 |nil=>rfl
 |cons p H ih=>
  obtain⟨id,o⟩:=p;simp only[Hp.Zl,a0I,ρ.Xa,a1A]at ih⊢;rw[ih]
theorem a3A(f:Nat->Nat)(x:AV):(x.VX f).Va=x.Va:=by cases x<;>rfl
theorem a4A(f:Nat->Nat)(x:AV):(x.VW f).Vo=x.Vo:=by
 cases x<;>first|rfl|simp[AV.VW,AV.Vo,b7A,a3A]
theorem a5A(f:Nat->Nat)(x:AV):(x.Zl f).WV=x.WV:=by
 cases x with
 |Zp cs=>simp[AV.Zl,AV.WV,b7A,a4A]
 |agg cs=>exact a4A f (.agg cs)
 | _=>rfl
theorem a6A(f:Nat->Nat)(o:Ob):(o.Zl f).WV=o.WV:=by
 cases o<;>first|rfl|simp[Ob.Zl,Ob.WV,b7A,a3A,a5A]
theorem a7A(ρ:Ren)(ψ:Pl)(H:Hp)(b:Nat):ZD (ψ.Zl ρ) (H.Zl ρ.to) b↔ZD ψ H b:=by
 constructor
 ·rintro⟨id,o,h1,h2⟩;rw[oV]at h1;obtain⟨o',h3,rfl⟩:=Vb h1;exact⟨ρ.inv id,o',h3,h2⟩
 ·rintro⟨id,o,h1,h2⟩;exact⟨ρ.to id,o.Zl ρ.to,by rw[CO,h1];rfl,(a1z ρ ψ id b).2 h2⟩
theorem ZX.Zl{P:Program}{fr:Bool}{f:FuncId}{args:List AV}{H:Hp}{res:AV}{H':Hp}(h:ZX P fr f args H res H')(ρ:Ren)
 (hs:(args.all AV.WV&&res.WV&&(H++H').all (fun p=>p.2.WV))=true):
 ZX P fr f (args.map (AV.Zl ρ.to)) (H.Zl ρ.to) (res.Zl ρ.to) (H'.Zl ρ.to):=by
 simp only[a3C,List.all_append,a8C]at hs;obtain⟨⟨H7,Tt⟩,hs3,hs4⟩:=hs;obtain⟨⟨Sl,MU⟩,h⟩:=h
 have YN:∀{H:Hp},(∀id o,look H id=some o->o.Zf=false)->∀id o,look (H.Zl ρ.to) id=some o->o.Zf=false:=by
  intro H hl id o ho;rw[oV]at ho;obtain⟨o',h3,rfl⟩:=Vb ho;rw[a9y];exact hl _ _ h3
 refine⟨⟨YN Sl,YN MU⟩,?_⟩;intro A ψ w vs hA UJ hinj VU Wi hlen U9
 let ψ0:Pl:=ψ.Zl ρ.back
 have VY:ψ0.Zl ρ=ψ:=by
  obtain⟨m,s⟩:=ψ;simp only[ψ0,Pl.Zl,Ren.back,ρ.VB]
 have Xj:∀id o,look H id=some o->look (H.Zl ρ.to) (ρ.to id)=some (o.Zl ρ.to):=fun id o ho=>by rw[CO,ho];rfl
 have shH:∀{H:Hp},(∀x∈H,x.2.WV=true)->∀id o,look H id=some o->o.WV=true:=fun hh id o ho=>hh _ (CN ho)
 have VS:=h A ψ0 w vs hA
  (fun id o ho=>by
   have:=(UJ _ _ (Xj id o ho)).Zl ρ.back (by rw[a6A];exact shH hs3 id o ho);have e1:ρ.back.to (ρ.to id)=id:=ρ.Xa id;have e2:(o.Zl ρ.to).Zl ρ.back.to=o:=a1A ρ o;have e3:(H.Zl ρ.to).Zl ρ.back.to=H:=a2A ρ H;rw[e1,e2,e3]at this
   exact this)
  (fun id XK o o' b h1 h2 h3 h4=>by
   have e:=hinj (ρ.to id) (ρ.to XK) _ _ b (Xj id o h1) (Xj XK o' h2) h3 h4;have:=congrArg ρ.inv e
   simpa[ρ.Xa]using this)
  (fun id o b h1 h2=>by
   obtain⟨q1,q2,q3⟩:=VU (ρ.to id) _ b (Xj id o h1) h2;rw[a8y]at q1
   exact⟨q1,q2,q3⟩)
  (fun b hb=>Wi b (by have:=(a7A ρ ψ0 H b).2 hb;rw[VY]at this;exact this))
  (by simpa using hlen)
  (fun i x hx=>by
   have h1:=U9 i (x.Zl ρ.to) (by rw[a1C,hx];rfl);have:=h1.Zl ρ.back (by rw[a5A];exact H7 x (a6y hx))
   have e2:(x.Zl ρ.to).Zl ρ.back.to=x:=a0A ρ x;have e3:(H.Zl ρ.to).Zl ρ.back.to=H:=a2A ρ H;rw[e2,e3]at this
   exact this)
 refine VS.mono ?_;rintro e w' ⟨v,ZF,rfl,k1,k2,k3,k4,k5,k6,kS,k7,k8⟩;have Hb:∀b,ZD (ZF.Zl ρ) (H'.Zl ρ.to) b↔ZD ZF H' b:=a7A ρ ZF H'
 refine⟨v,ZF.Zl ρ,rfl,fun b hb hh=>k1 b hb fun hx=>hh (by have:=(a7A ρ ψ0 H b).2 hx;rw[VY]at this;exact this),k2,k3,fun id o ho=>?_,fun id o b ho hb=>?_,fun id XK o o' b h1 h2 h3 h4=>?_,fun id o b h1 h2=>?_,fun id o ho=>?_,?_⟩
 ·rw[oV]at ho;obtain⟨o',h3,rfl⟩:=Vb ho;have:=k4 _ _ h3
  show ZF (ρ.inv id)=ψ id
  rw[this]
  show ψ (ρ.to (ρ.inv id))=ψ id
  rw[ρ.VB]
 ·rw[oV]at ho;obtain⟨o',h3,rfl⟩:=Vb ho
  rcases k5 _ _ b h3 hb with⟨o0,q1,q2⟩|q
  ·left;refine⟨o0.Zl ρ.to,by rw[oV,q1];rfl,?_⟩;have:=(a1z ρ ψ0 (ρ.inv id) b).2 q2;rw[VY,ρ.VB]at this;exact this
  ·exact .inr q
 ·rw[oV]at h1 h2;obtain⟨o1,q1,rfl⟩:=Vb h1;obtain⟨o2,q2,rfl⟩:=Vb h2;have e:=k6 _ _ _ _ b q1 q2 h3 h4;have:=congrArg ρ.to e;simpa[ρ.VB]using this
 ·rw[oV]at h1;obtain⟨o1,q1,rfl⟩:=Vb h1;obtain⟨r1,r2,r3⟩:=kS _ _ b q1 h2;exact⟨by rw[a8y];exact r1,r2,r3⟩
 ·rw[oV]at ho;obtain⟨o1,q1,rfl⟩:=Vb ho;have:=(k7 _ _ q1).Zl ρ (shH hs4 _ _ q1);rw[ρ.VB]at this;refine this.mono (fun b _ hb=>⟨hb.1,fun hh=>hb.2 ((Hb b).1 hh)⟩) (fun _ _ _=>rfl) (U8.refl _ _) ⟨rfl,fun _ h=>h⟩ (fun _ _=>rfl)
 ·exact(k8.Zl ρ Tt).mono (fun b _ hb=>⟨hb.1,fun hh=>hb.2 ((Hb b).1 hh)⟩) (fun _ _ _=>rfl) (U8.refl _ _)
def d8m(P:Program):List Field->Nat->Option Nat
 | [],o=>some o
 |f::r,o=>if f.offset=o then d8m P r (o+P.cellsOf f.type)else none
def d9m(P:Program)(S:List TypeId):Bool:=S.all fun t=>match P.underlying t with
 |some .bool|some (.int _)|some .string=>decide (P.cellsOf t=1)
 |some (.slice e)=>decide (P.cellsOf t=1)&&S.contains e&&decide (0<P.cellsOf e)
 |some (.struct fs)=>fs.toList.all (fun f=>S.contains f.type)&&decide (d8m P fs.toList 0=some (P.cellsOf t))
 | _=>false
def Vd(P:Program):Nat->TypeId->List IV->Prop
 | 0,_,_=>False
 |f+1,t,cs=>match P.underlying t with
  |some .bool=>∃b,cs=[.v (.bool b)]
  |some (.int k)=>∃n,cs=[.v (.int k n)]/\(Lit.int k n).wf=true
  |some .string=>∃s:ByteArray,cs=[.v (.string s)]/\s.size<=maxLen
  |some (.slice e)=>∃xs,cs=[.Z6 (P.cellsOf e) xs]/\xs.length<=maxLen/\∀x∈xs,Vd P f e x
  |some (.struct fs)=>cs.length=P.cellsOf t/\∀Wq∈fs.toList,Vd P f Wq.type ((cs.drop Wq.offset).take (P.cellsOf Wq.type))
  | _=>False
def Ie(P:Program):Nat->TypeId->List IV->Prop
 | 0,_,_=>False
 |f+1,t,cs=>match P.underlying t with
  |some (.slice e)=>∃xs,cs=[.Z6 (P.cellsOf e) xs]/\xs.length*P.bytesOf e<=reachBytes/\∀x∈xs,Ie P f e x
  |some (.struct fs)=>∀Wq∈fs.toList,Ie P f Wq.type ((cs.drop Wq.offset).take (P.cellsOf Wq.type))
  | _=>True
theorem d0n{H:Type}{P:Program}:∀{ts:List TypeId} {ds:List (DataW H)} {i:Nat} {t:TypeId} {d:DataW H},ts[i]? =some t->ds[i]? =some d->∀n∈d.weights P t,n∈DataW.weightsEach P ts ds
 | [],_,i,t,d,h,_,_,_=>by simp at h
 | _::_,[],i,t,d,_,h,_,_=>by simp at h
 |t0::ts,d0::ds,i,t,d,h1,h2,n,hn=>by
  simp only[DataW.weightsEach,a9E]
  cases i with
  |zero=>simp at h1 h2;subst h1;subst h2;exact .inl hn
  |succ i=>exact .inr (d0n (ts:=ts) (ds:=ds) (i:=i) (by simpa using h1) (by simpa using h2) n hn)
theorem d1n{H:Type}{P:Program}{e:TypeId}:∀{ds:List (DataW H)} {i:Nat} {d:DataW H},ds[i]? =some d->∀n∈d.weights P e,n∈DataW.weightsAll P e ds
 | [],i,d,h,_,_=>by simp at h
 |d0::ds,i,d,h,n,hn=>by
  simp only[DataW.weightsAll,a9E]
  cases i with
  |zero=>simp at h;subst h;exact .inl hn
  |succ i=>exact .inr (d1n (ds:=ds) (i:=i) (by simpa using h) n hn)
def nC{H:Type}(P:Program)(t:TypeId)(d:DataW H):Prop:=∀n∈d.weights P t,n<=reachBytes
theorem d3n{α β:Type}{f:α->Option β}:∀{l:List α} {r:List β},l.mapM f=some r->r.length=l.length/\∀(i:Nat) (x:α),l[i]? =some x->∃y,r[i]? =some y/\f x=some y
 | [],r,h=>by simp at h;subst h;simp
 |a::l,r,h=>by
  rw[a0Q]at h
  cases h1:f a with
  |none=>rw[h1]at h;cases h
  |some b=>
   rw[h1]at h
   cases h2:l.mapM f with
   |none=>rw[h2]at h;cases h
   |some r'=>
    rw[h2]at h
    have e:b::r'=r:=by simpa using h
    subst e;obtain⟨g1,g2⟩:=d3n h2;refine⟨by simp[g1],fun i x hx=>?_⟩
    cases i with
    |zero=>simp only[a0F,a3y]at hx;subst hx;exact⟨b,rfl,h1⟩
    |succ i=>simpa using g2 i x (by simpa using hx)
def D4(A:Nat->Prop)(w:World)(cs:List IV)(vs:List Value):Prop:=cs.length=vs.length/\∀i c,cs[i]? =some c->Yq A w c (vs.getD i undef)
theorem World.cells?_some{w:World}{a:Addr}{n:Nat}{vs:List Value}(h:w.cells? 0 a n=some vs):vs.length=n/\∀i,i<n->w.cell? (a.add i)=some (vs.getD i undef):=by
 unfold World.cells? at h;rw[if_pos (c0t _)]at h;obtain⟨g1,g2⟩:=d3n h;refine⟨by simpa using g1,fun i hi=>?_⟩;obtain⟨y,h1,h2⟩:=g2 i i (by simp[hi]);rw[h2];simp[a7V,h1]
theorem d4n(vs:List Value)(o n i:Nat)(hi:i<n):((vs.drop o).take n).getD i undef=vs.getD (o+i) undef:=by
 simp[a7V,List.getElem?_take,hi,List.getElem?_drop]
theorem d5n{P:Program}{A:Nat->Prop}{w:World}{vs:List Value}{Φ:TypeId->List IV->Prop}:∀(fs:List Field) (o N:Nat),d8m P fs o=some N->N<=vs.length->
 (∀Wq∈fs,∃cs,cs.length=P.cellsOf Wq.type/\D4 A w cs ((vs.drop Wq.offset).take (P.cellsOf Wq.type))/\Φ Wq.type cs)->
 ∃cs:List IV,o+cs.length=N/\(∀i c,cs[i]? =some c->Yq A w c (vs.getD (o+i) undef))/\∀Wq∈fs,o<=Wq.offset/\Φ Wq.type ((cs.drop (Wq.offset-o)).take (P.cellsOf Wq.type))
 | [],o,N,h,hN,_=>by
  simp only[d8m,a3y]at h;exact⟨[],by simpa using h,by simp,by simp⟩
 |Wq::r,o,N,h,hN,hf=>by
  simp only[d8m]at h;split at h
  ·rename_i ho;subst ho;obtain⟨c1,h1,⟨h2,h3⟩,h4⟩:=hf Wq a4E;obtain⟨c2,g1,g2,g3⟩:=d5n r (Wq.offset+P.cellsOf Wq.type) N h hN (fun x hx=>hf x (a9C _ hx));refine⟨c1++c2,by simp[h1];omega,fun i c hc=>?_,fun x hx=>?_⟩
   ·by_cases hi:i<c1.length
    ·rw[a9L hi]at hc;have:=h3 i c hc;rwa [d4n _ _ _ _ (by omega)]at this
    ·rw[a7U (by omega)]at hc;have:=g2 _ c hc;rwa [show Wq.offset+P.cellsOf Wq.type+(i-c1.length)=Wq.offset+i from by omega]at this
   ·rcases a5E.1 hx with rfl|hx
    ·refine⟨a8F _,?_⟩;rw[Nat.sub_self,List.drop_zero, <-h1,List.take_left];exact h4
    ·obtain⟨q1,q2⟩:=g3 x hx;refine⟨by omega,?_⟩;rw[show x.offset-Wq.offset=c1.length+(x.offset-(Wq.offset+P.cellsOf Wq.type))from by omega,List.drop_append];rw[List.drop_eq_nil_of_le (by omega),b3H,Nat.add_sub_cancel_left];exact q2
  ·cases h
theorem d6n{H:Type}{enc:TypeId×Value->H}{P:Program}{S:List TypeId}(hS:d9m P S=true){w:World}:∀(fuel:Nat) (t:TypeId),t∈S->∀(vs:List Value) (d:DataW H) (ps:List MemPlace),
 DataW.trod enc P w 0 (fun _=>true) true fuel t vs=some (d,ps)->∃cs:List IV,cs.length=P.cellsOf t/\D4 (fun b=>b<w.heap.size) w cs vs/\Vd P fuel t cs/\(nC P t d->Ie P fuel t cs):=by
 intro fuel
 induction fuel with
 |zero=>intro t _ vs d ps h;cases h
 |succ fuel ih=>
  intro t ht vs d ps h;have hp:=a8C.1 hS t ht;simp only[DataW.trod]at h
  have one:∀{v:Value},v.oneCell'=true->D4 (fun b=>b<w.heap.size) w [.v v] [v]:=by
   intro v hv;refine⟨rfl,fun i c hc=>?_⟩
   cases i with
   |zero=>simp only[a0F,a3y]at hc;subst hc;exact .v v hv
   |succ i=>simp at hc
  cases hu:P.underlying t with
  |none=>rw[hu]at hp;simp at hp
  |some dd=>
   rw[hu]at hp h
   cases dd with
   |bool=>
    have hc:P.cellsOf t=1:=by simpa using hp
    split at h<;>first|(rename_i heq;cases heq)|skip
    all_goals try (cases h)
    rename_i b _;exact⟨_,by rw[hc];rfl,one rfl,by simp[Vd,hu],fun _=>by simp[Ie,hu]⟩
   |int k=>
    have hc:P.cellsOf t=1:=by simpa using hp
    split at h<;>first|(rename_i heq;cases heq)|skip
    all_goals try (cases h)
    split at h
    ·rename_i hk;obtain⟨rfl,hw⟩:=hk;exact⟨_,by rw[hc];rfl,one rfl,by simp[Vd,hu,hw],fun _=>by simp[Ie,hu]⟩
    ·cases h
   |string=>
    have hc:P.cellsOf t=1:=by simpa using hp
    split at h<;>first|(rename_i heq;cases heq)|skip
    all_goals try (cases h)
    split at h
    ·rename_i hk;exact⟨_,by rw[hc];rfl,one rfl,by simp[Vd,hu,hk],fun _=>by simp[Ie,hu]⟩
    ·cases h
   |slice e=>
    simp only[a3C,decide_eq_true_eq,d6d]at hp;obtain⟨⟨hc,he⟩,HE⟩:=hp
    split at h<;>first|(rename_i heq;cases heq)|skip
    all_goals try (cases h)
    ·refine⟨[.Z6 (P.cellsOf e) []],by rw[hc];rfl,⟨rfl,fun i c hc=>?_⟩,by simp[Vd,hu],fun _=>by simp[Ie,hu]⟩
     cases i with
     |zero=>simp only[a0F,a3y]at hc;subst hc;exact .V5 _
     |succ i=>simp at hc
    ·rename_i a len cap;split at h
     ·rename_i hb;obtain⟨_,Vc,hcm⟩:=hb;obtain⟨elems,hel,h⟩:=b6v.1 h;obtain⟨g1,g2⟩:=d3n hel;obtain⟨rest,_,hd⟩:=a9R.1 h;have hd:d= .slice (elems.map (·.1)) (rest.map (·.1)):=(congrArg d3T hd).symm
      have hR:nC P t d->len*P.bytesOf e<=reachBytes/\∀(i:Nat) (y:DataW H×List MemPlace),elems[i]? =some y->nC P e y.1:=by
       intro hR;rw[hd]at hR;unfold nC at hR;rw[DataW.weights,hu]at hR;refine⟨?_,fun i y hy n hn=>hR n (a9C _ (a7N _ (d1n (i:=i) (by simp[hy]) n hn)))⟩;have h0:=hR _ a4E;simp only[a5O,g1,List.length_range]at h0;exact Nat.le_trans (Nat.mul_le_mul_right _ (c9K _ _)) h0
      have f0v:∀i,i<len->∃vs',w.cells? 0 (a.add (i*P.cellsOf e)) (P.cellsOf e)=some vs'/\∃x:List IV,x.length=P.cellsOf e/\D4 (fun b=>b<w.heap.size) w x vs'/\Vd P fuel e x/\(nC P t d->Ie P fuel e x):=by
       intro i hi;obtain⟨y,q1,q2⟩:=g2 i i (by simp[hi]);obtain⟨vs',q3,q4⟩:=b6v.1 q2;obtain⟨x,p1,p2,p3,p4⟩:=ih e (by simpa using he) vs' y.1 y.2 (by rw[q4]);exact⟨vs',q3,x,p1,p2,p3,fun hr=>p4 ((hR hr).2 i y q1)⟩
      classical
      let X:Nat->List IV:=fun i=>if hi:i<len then b7G (b2K (f0v i hi)).2 else[]
      let V:Nat->List Value:=fun i=>if hi:i<len then b7G (f0v i hi)else[]
      have hX:∀i,i<len->w.cells? 0 (a.add (i*P.cellsOf e)) (P.cellsOf e)=some (V i)/\(X i).length=P.cellsOf e/\D4 (fun b=>b<w.heap.size) w (X i) (V i)/\Vd P fuel e (X i)/\(nC P t d->Ie P fuel e (X i)):=by
       intro i hi;simp only[X,V,dif_pos hi];obtain⟨q1,q2⟩:=b2K (f0v i hi);exact⟨q1,b2K q2⟩
      have Kt:((a7I len).map X).length=len:=by simp
      have hxi:∀i x,((a7I len).map X)[i]? =some x->i<len/\x=X i:=by
       intro i x hx
       have hi:i<len:=by
        have:=(a5y.1 hx).1;simpa using this
       refine⟨hi,?_⟩;rw[a1C,List.getElem?_range hi]at hx;simpa using hx.symm
      refine⟨[.Z6 (P.cellsOf e) ((a7I len).map X)],by rw[hc];rfl,⟨rfl,fun i c hc=>?_⟩,?_,fun hr=>?_⟩
      ·cases i with
       |succ i=>simp at hc
       |zero=>
        simp only[a0F,a3y]at hc;subst hc
        show Yq _ w _ (.slice (some a) len cap)
        have UH:∀i j c,at2 ((a7I len).map X) i j=some c->i<len/\j<P.cellsOf e/\(X i)[j]? =some c:=by
         intro i j c Xu;obtain⟨r,hr,hj⟩:=IE Xu;obtain⟨hi,rfl⟩:=hxi i r hr;exact⟨hi,by rw[<-(hX i hi).2.1];exact(a5y.1 hj).1,hj⟩
        by_cases M6:len=0
        ·subst M6;exact .Z6 (P.cellsOf e) [] 0 0 cap a (fun _ _=>undef) (fun h=>absurd rfl h) (by simp) (by simp) (fun i j c Xu=>by simp[at2]at Xu) (fun i j c Xu=>by simp[at2]at Xu)
        ·have nB:a.spot=none:=by
          have:=World.cell?_spot ((World.cells?_some (hX 0 (by omega)).1).2 0 HE);simpa[Addr.add]using this
         obtain⟨bl,off,spot⟩:=a;simp only at nB;subst nB
         have SU:∀i j,i<len->j<P.cellsOf e->w.cell? ⟨bl,off+(i*P.cellsOf e+j),none⟩=some ((V i).getD j undef):=by
          intro i j hi hj;have:=(World.cells?_some (hX i hi).1).2 j hj;rw[Dz,Dz]at this;rw[<-this,Nat.add_assoc]
         have key:=Yq.Z6 (A:=fun b=>b<w.heap.size) (w:=w) (P.cellsOf e) ((a7I len).map X) bl off cap ⟨bl,off,none⟩ (fun i j=>(V i).getD j undef)
          (fun _=>rfl) (fun x hx=>by
           obtain⟨i,hi,rfl⟩:=a0E.1 hx
           exact(hX i (by simpa using hi)).2.1) (by rw[Kt];exact Vc)
          (fun i j c Xu=>by
           obtain⟨q1,q2,q3⟩:=UH i j c Xu;have:=SU i j q1 q2
           exact⟨World.block_lt_of_cell? w _ this,this⟩)
          (fun i j c Xu=>by
           obtain⟨q1,q2,q3⟩:=UH i j c Xu
           exact(hX i q1).2.2.1.2 j c q3)
         rw[Kt]at key;exact key
      ·simp only[Vd,hu];refine⟨_,rfl,by rw[Kt];omega,fun x hx=>?_⟩;obtain⟨i,hi,rfl⟩:=a0E.1 hx;exact(hX i (by simpa using hi)).2.2.2.1
      ·simp only[Ie,hu];refine⟨_,rfl,by rw[Kt];exact(hR hr).1,fun x hx=>?_⟩
       obtain⟨i,hi,rfl⟩:=a0E.1 hx;exact(hX i (by simpa using hi)).2.2.2.2 hr
     ·cases h
   |struct fs=>
    simp only[a3C,decide_eq_true_eq,a8C,d6d]at hp;obtain⟨oX,g7P⟩:=hp
    have h:(if vs.length=P.cellsOf t then(fs.toList.mapM fun f=>DataW.trod enc P w 0 (fun _=>true) true fuel f.type ((vs.drop f.offset).take (P.cellsOf f.type))).map fun xs=>(DataW.agg (xs.map (·.1)),xs.flatMap (·.2))else none)=some (d,ps):=by
     match vs,h with
     | _,h=>exact h
    split at h
    ·rename_i hl;obtain⟨xs,IU,hd⟩:=a9R.1 h;have hd:d= .agg (xs.map (·.1)):=(congrArg d3T hd).symm;obtain⟨g1,g2⟩:=d3n IU
     obtain⟨cs,q1,q2,q3⟩:=d5n (A:=fun b=>b<w.heap.size) (w:=w) (vs:=vs) (Φ:=fun t' cs=>Vd P fuel t' cs/\(nC P t d->Ie P fuel t' cs)) fs.toList 0 (P.cellsOf t) g7P (by omega) (fun Wq hf=>by
      obtain⟨i,hi⟩:=a9B hf;obtain⟨y,r1,r2⟩:=g2 i Wq hi;obtain⟨cs,r3,r4,r5,r6⟩:=ih Wq.type (by simpa using oX Wq hf) _ y.1 y.2 (by rw[r2]);refine⟨cs,r3,r4,r5,fun hr=>r6 ?_⟩;rw[hd]at hr;unfold nC at hr;rw[DataW.weights,hu]at hr
      exact fun n hn=>hr n (d0n (i:=i) (by simp[hi]) (by simp[r1]) n hn))
     rw[b5D]at q1;refine⟨cs,q1,⟨by omega,fun i c hc=>by have:=q2 i c hc;rwa [b5D]at this⟩,?_,fun hr=>?_⟩
     ·simp only[Vd,hu];exact⟨q1,fun Wq hf=>by have:=(q3 Wq hf).2.1;rwa [d1R]at this⟩
     ·simp only[Ie,hu]
      exact fun Wq hf=>by have:=(q3 Wq hf).2.2 hr;rwa [d1R]at this
    ·cases h
   | _=>simp at hp
end Go.Vm
end

section
namespace Go.Vm
open Go.ChangeShapes Go.WideShapes Go.ChangeAt Go.RowKit
def Qq(P:Program):List TypeId->List (List IV)->List AV
 |t::ts,cs::Wt=>S5 (XT P t) (cs.map .iv)::Qq P ts Wt
 | _,_=>[]
def d3u(P:Program):List TypeId->List (List IV)->Prop
 | [],[]=>True
 |t::ts,cs::Wt=>(∃fuel,Vd P fuel t cs)/\d3u P ts Wt
 | _,_=>False
def d4u(P:Program):List TypeId->List (List IV)->Prop
 | [],[]=>True
 |t::ts,cs::Wt=>(∃fuel,Vd P fuel t cs/\Ie P fuel t cs)/\d4u P ts Wt
 | _,_=>False
theorem d5u{P:Program}{S:List TypeId}(hS:d9m P S=true){t:TypeId}(ht:t∈S){w:World}{base:Nat}{v:Value}(h:Value.okWide P w .any base t v):Sz v=XT P t:=by
 have hp:=a8C.1 hS t ht;unfold Value.okWide at h
 cases hu:P.underlying t with
 |none=>rw[hu]at hp;simp at hp
 |some dd=>
  rw[hu]at hp h
  cases dd with
  |struct fs=>obtain⟨cs,rfl,_⟩:=h;simp[Sz,XT,hu]
  |bool=>simp only[Cell.okWide,Cell.ok,hu]at h;cases v<;>simp_all[Sz,XT]
  |int k=>simp only[Cell.okWide,Cell.ok,hu]at h;cases v<;>simp_all[Sz,XT]
  |string=>simp only[Cell.okWide,Cell.ok,hu]at h;cases v<;>simp_all[Sz,XT]
  |slice e=>simp only[Cell.okWide,Cell.ok,hu]at h;cases v<;>simp_all[Sz,XT]
  | _=>simp at hp
theorem d6u{H:Type}{enc:TypeId×Value->H}{P:Program}{S:List TypeId}(hS:d9m P S=true){W:World}{base:Nat}:∀(ts:List TypeId) (vs:List Value) (ds:List (DataW H)) (p:List MemPlace),
 DataW.TrodAll enc P W 0 (fun _=>true) true ts vs ds p->(∀t∈ts,t∈S)->(∀(j:Nat) t v,ts[j]? =some t->vs[j]? =some v->Value.okWide P W .any base t v)->
 ∃Wt,(d3u P ts Wt/\((∀n∈DataW.weightsEach P ts ds,n<=reachBytes)->d4u P ts Wt))/\vs.length=(Qq P ts Wt).length/\∀i x,(Qq P ts Wt)[i]? =some x->ZL (fun b=>b<W.heap.size) ⟨fun _=>none,fun _ _=>False⟩ [] W x (vs.getD i undef)
 | [],vs,ds,p,h,_,_=>by
  cases vs with
  |nil=>exact⟨[],⟨trivial,fun _=>trivial⟩,rfl,by simp[Qq]⟩
  |cons v vs=>cases ds<;>exact h.elim
 |t::ts,vs,ds,p,h,LD,ZY=>by
  obtain⟨v,vs,d,ds,p,q,rfl,rfl,rfl,⟨fuel,h1⟩,h2⟩:=trodAll_cons h;obtain⟨cs,g1,⟨g2,g3⟩,g4,g5⟩:=d6n hS fuel t (LD t a4E) _ _ _ h1;obtain⟨Wt,⟨r1,r4⟩,r2,r3⟩:=d6u hS ts vs ds q h2 (fun x hx=>LD x (a9C _ hx)) (fun j t' v' h3 h4=>ZY (j+1) t' v' h3 h4)
  refine⟨cs::Wt,⟨⟨⟨fuel,g4⟩,r1⟩,fun hw=>⟨⟨fuel,g4,g5 fun n hn=>hw n (by simp only[DataW.weightsEach,a9E];exact .inl hn)⟩,r4 fun n hn=>hw n (by simp only[DataW.weightsEach,a9E];exact .inr hn)⟩⟩,by simp[Qq,r2],fun i x hx=>?_⟩
  cases i with
  |zero=>
   simp only[Qq,a0F,a3y]at hx;subst hx
   refine c1o (d5u hS (LD t a4E) (ZY 0 t v rfl rfl)) (by simpa using g2.symm) fun i x hx=>?_
   rw[<-Sn];exact g3 i x hx
  |succ i=>
   simp only[Qq,a5J]at hx;simpa using r3 i x hx
theorem d7u{H:Type}{enc:TypeId×Value->H}{P:Program}(hl:laidOutB P=true){W W':World}(bel:Below W.heap.size W W'):∀(ts:List TypeId) (vs:List Value) (ds:List (DataW H)) (p:List MemPlace),
 DataW.TrodAll enc P W 0 (fun _=>true) true ts vs ds p->(∀t∈ts,P.readableRec t=true/\t<P.types.size)->DataW.TrodAll enc P W' 0 (fun b=>decide (b<W.heap.size)) true ts vs ds p
 | [],vs,ds,p,h,_=>by
  cases vs<;>cases ds<;>first|exact h|exact h.elim
 |t::ts,vs,ds,p,h,LD=>by
  obtain⟨v,vs,d,ds,p,q,rfl,rfl,rfl,h1,h2⟩:=trodAll_cons h;have ht:=LD t a4E;refine trodAll_cons_mk (Below.trod hl ht.1 ht.2 h1 bel ?_) (d7u hl bel ts vs ds q h2 (fun x hx=>LD x (a9C _ hx)));intro x hx;obtain⟨m,hm⟩:=h1;exact DataW.trod_lt m _ _ _ hm x hx
theorem d8u{P:Program}{f:FuncId}{args:List AV}(h:ZX P true f args [] (.iv (.v (.bool true))) []){w:World}{vs:List Value}(hl:vs.length=args.length)
 (hv:∀i x,args[i]? =some x->ZL (fun b=>b<w.heap.size) ⟨fun _=>none,fun _ _=>False⟩ [] w x (vs.getD i undef)):
 Calls P f vs.toArray w fun e w'=>e= .returned (.bool true)/\Below w.heap.size w w':=by
 have YQ:∀{ψ:Pl} {b:Nat},¬ZD ψ [] b:=by rintro ψ b ⟨id,o,h,_⟩;cases h
 refine(h.2 (fun b=>b<w.heap.size) ⟨fun _=>none,fun _ _=>False⟩ w vs (fun _ h=>h) (fun id o ho=>by cases ho) (fun id XK o o' b ho=>by cases ho) (fun id o b ho=>by cases ho) (fun b hb=>(YQ hb).elim) hl hv).mono ?_;rintro e w' ⟨v,ZF,rfl,k1,k2,k3,k4,k5,k6,kS,k7,k8⟩;exact⟨by rw[Vp k8],k3.os,k3.tape,k3.output,k2,fun b hb=>k1 b hb YQ⟩
theorem d9u{C:Checked}{S:List TypeId}(hS:d9m C.prog S=true)(hl:laidOutB C.prog=true){f:FuncId}{fn:Func}{ts:List TypeId}{tb:TypeId}{spec:ChangeSpec}(I2:spec.vars=[])
 (D3:fn.params.toList=ts) (LD:∀t∈ts,t∈S) (hrd:∀t∈ts,C.prog.readableRec t=true/\t<C.prog.types.size) (TJ:fn.resultTypes= #[tb]) (htb:C.prog.underlying tb=some .bool)
 (VS:∀(H:Type) (ds:List (DataW H)),ds.length=ts.length->(spec.fn H ds).results=[.lit (.bool true)]/\(spec.fn H ds).args=ds/\(spec.fn H ds).vars=[])
 (sz:Prop) (hg:∀Wt,d3u C.prog ts Wt->(sz->d4u C.prog ts Wt)->ZX C.prog true f (Qq C.prog ts Wt) [] (.iv (.v (.bool true))) [])
 {H:Type} {enc:TypeId×Value->H} {W:World} {base:Nat} {args:Array Value} {ds gs:List (DataW H)} {before:List MemPlace}
 (hval:∀(j:Nat) t v,fn.params[j]? =some t->args[j]? =some v->Value.okWide C.prog W .any base t v) (hW:DataW.Whole enc C.prog fn.params.toList spec.vars false W args.toList ds gs before)
 (Ya:sz->∀n∈DataW.weightsEach C.prog ts ds,n<=reachBytes):
 Calls C.prog f args W fun e W'=>∃v,e= .returned v/\spec.post enc C.prog fn false true false false W args v W':=by
 have hW':=hW;obtain⟨p,q,hA,hV,rfl,hfz,VM⟩:=hW;rw[D3]at hA;rw[I2]at hV;obtain⟨rfl,rfl⟩:=trodVars_none hV;obtain⟨Wt,⟨h1,h1s⟩,h2,h3⟩:=d6u (base:=base) hS ts args.toList ds p hA LD (fun j t v hj hv=>hval j t v (by rw[<-a1E,D3];exact hj) (by rw[<-a1E];exact hv))
 have hlen:∀(ts:List TypeId) (vs:List Value) (ds:List (DataW H)) (p:List MemPlace),DataW.TrodAll enc C.prog W 0 (fun _=>true) true ts vs ds p->ds.length=ts.length:=by
  intro ts
  induction ts with
  |nil=>intro vs ds p h;cases vs<;>cases ds<;>first|rfl|exact h.elim
  |cons t ts ih=>
   intro vs ds p h;obtain⟨v,vs,d,ds,p,q,rfl,rfl,rfl,_,h2⟩:=trodAll_cons h;simp[ih _ _ _ h2]
 have qO:=hlen _ _ _ _ hA;obtain⟨s1,s2,s3⟩:=VS H ds qO;refine(d8u (hg Wt h1 fun s=>h1s (Ya s)) h2 h3).mono ?_;rintro e W' ⟨rfl,bel⟩;refine⟨_,rfl,ds,[],_,[],p,[],hW',?_,?_,?_,bel.frame _,fun h=>by cases h⟩
 ·rw[b9o,s1,TJ];exact trodAll_mk1 (shut_bool htb _)
 ·rw[b9o,s2,D3];exact d7u hl bel ts _ ds p hA hrd
 ·rw[b9o,s3,I2];rfl
theorem d0v{C:Checked}{S:List TypeId}(hS:d9m C.prog S=true)(hl:laidOutB C.prog=true){f:FuncId}{fn:Func}{ts:List TypeId}{tb:TypeId}{spec:ChangeSpec}(I2:spec.vars=[])
 (D3:fn.params.toList=ts) (LD:∀t∈ts,t∈S) (hrd:∀t∈ts,C.prog.readableRec t=true/\t<C.prog.types.size) (TJ:fn.resultTypes= #[tb]) (htb:C.prog.underlying tb=some .bool)
 (VS:∀(H:Type) (ds:List (DataW H)),ds.length=ts.length->(spec.fn H ds).results=[.lit (.bool true)]/\(spec.fn H ds).args=ds/\(spec.fn H ds).vars=[])
 (hg:∀Wt,d3u C.prog ts Wt->ZX C.prog true f (Qq C.prog ts Wt) [] (.iv (.v (.bool true))) [])
 {H:Type} {enc:TypeId×Value->H} {W:World} {base:Nat} {args:Array Value} {ds gs:List (DataW H)} {before:List MemPlace}
 (hval:∀(j:Nat) t v,fn.params[j]? =some t->args[j]? =some v->Value.okWide C.prog W .any base t v) (hW:DataW.Whole enc C.prog fn.params.toList spec.vars false W args.toList ds gs before):
 Calls C.prog f args W fun e W'=>∃v,e= .returned v/\spec.post enc C.prog fn false true false false W args v W':=
 d9u hS hl I2 D3 LD hrd TJ htb VS False (fun Wt h _=>hg Wt h) hval hW fun h=>h.elim
end Go.Vm
end

section
namespace Go.Rt
@[reducible] noncomputable def prog:Program:=Go.Proofs.Tryz.prog
@[reducible]def g6W:FuncId:=3
@[reducible]def g7W:FuncId:=4
@[reducible]def g8W:FuncId:=5
@[reducible]def g9W:FuncId:=6
@[reducible]def g0X:FuncId:=7
@[reducible]def g1X:FuncId:=8
@[reducible]def g2X:FuncId:=9
@[reducible]def g3X:FuncId:=10
@[reducible]def g4X:FuncId:=11
@[reducible]def g5X:FuncId:=12
@[reducible]def oL:FuncId:=13
@[reducible]def oK:FuncId:=14
@[reducible]def oJ:FuncId:=15
@[reducible]def oI:FuncId:=16
@[reducible]def oU:FuncId:=17
@[reducible]def Lx:FuncId:=18
@[reducible]def WN:FuncId:=19
@[reducible]def X6:FuncId:=20
@[reducible]def XD:FuncId:=21
@[reducible]def Wc:FuncId:=22
@[reducible]def U4:FuncId:=23
@[reducible]def RG:FuncId:=24
@[reducible]def Lw:FuncId:=25
@[reducible]def Uz:FuncId:=26
@[reducible]def Ql:FuncId:=27
@[reducible]def f7N:FuncId:=28
@[reducible]def XW:FuncId:=29
@[reducible]def Qk:FuncId:=30
@[reducible]def XC:FuncId:=31
@[reducible]def Oc:FuncId:=32
@[reducible]def Xq:FuncId:=33
@[reducible]def oH:FuncId:=34
@[reducible]def Xp:FuncId:=35
@[reducible]def oG:FuncId:=36
@[reducible]def Xc:FuncId:=37
@[reducible]def Oa:FuncId:=38
@[reducible]def N9:FuncId:=39
@[reducible]def Qj:FuncId:=40
@[reducible]def SQ:FuncId:=41
@[reducible]def TW:FuncId:=42
@[reducible]def Qi:FuncId:=43
@[reducible]def SP:FuncId:=44
@[reducible]def Qh:FuncId:=45
@[reducible]def RF:FuncId:=46
@[reducible]def Lv:FuncId:=47
@[reducible]def Qg:FuncId:=48
@[reducible]def Lu:FuncId:=49
@[reducible]def VL:FuncId:=50
@[reducible]def Lt:FuncId:=51
@[reducible]def Qf:FuncId:=52
@[reducible]def Ls:FuncId:=53
@[reducible]def RE:FuncId:=54
@[reducible]def Wb:FuncId:=55
@[reducible]def GH:FuncId:=56
@[reducible]def Uy:FuncId:=57
@[reducible]def Vn:FuncId:=58
@[reducible]def Qe:FuncId:=59
@[reducible]def Lr:FuncId:=60
@[reducible]def Lq:FuncId:=61
@[reducible]def U0:FuncId:=62
@[reducible]def Lp:FuncId:=63
@[reducible]def N8:FuncId:=64
@[reducible]def Ln:FuncId:=65
@[reducible]def Lm:FuncId:=66
@[reducible]def GG:FuncId:=67
@[reducible]def Ll:FuncId:=68
@[reducible]def N7:FuncId:=69
@[reducible]def Ux:FuncId:=70
@[reducible]def GF:FuncId:=71
@[reducible]def SO:FuncId:=72
@[reducible]def GD:FuncId:=73
@[reducible]def GC:FuncId:=74
@[reducible]def GB:FuncId:=75
@[reducible]def GA:FuncId:=76
@[reducible]def Gz:FuncId:=77
@[reducible]def Gy:FuncId:=78
@[reducible]def Wa:FuncId:=79
@[reducible]def Gx:FuncId:=80
@[reducible]def SN:FuncId:=81
@[reducible]def Qd:FuncId:=82
@[reducible]def N6:FuncId:=83
@[reducible]def f8N:FuncId:=84
@[reducible]def f9N:FuncId:=85
@[reducible]def TV:FuncId:=86
@[reducible]def oF:FuncId:=87
@[reducible]def Lk:FuncId:=88
@[reducible]def Qc:FuncId:=89
@[reducible]def Gw:FuncId:=90
@[reducible]def Lj:FuncId:=91
@[reducible]def Li:FuncId:=92
@[reducible]def Lh:FuncId:=93
@[reducible]def Lg:FuncId:=94
@[reducible]def N5:FuncId:=95
@[reducible]def RD:FuncId:=96
@[reducible]def N4:FuncId:=97
@[reducible]def Lf:FuncId:=98
@[reducible]def N3:FuncId:=99
@[reducible]def Gv:FuncId:=100
@[reducible]def Ld:FuncId:=101
@[reducible]def N2:FuncId:=102
@[reducible]def Gu:FuncId:=103
@[reducible]def X5:FuncId:=104
@[reducible]def Qb:FuncId:=105
@[reducible]def N1:FuncId:=106
@[reducible]def RC:FuncId:=107
@[reducible]def RB:FuncId:=108
@[reducible]def Lc:FuncId:=109
@[reducible]def N0:FuncId:=110
@[reducible]def Lb:FuncId:=111
@[reducible]def Gt:FuncId:=112
@[reducible]def Qa:FuncId:=113
@[reducible]def g6X:FuncId:=114
@[reducible]def g7X:FuncId:=115
@[reducible]def P9:FuncId:=116
@[reducible]def Gs:FuncId:=117
@[reducible]def La:FuncId:=118
@[reducible]def K9:FuncId:=119
@[reducible]def NZ:FuncId:=120
@[reducible]def Gq:FuncId:=121
@[reducible]def Gp:FuncId:=122
@[reducible]def Gn:FuncId:=123
@[reducible]def Gm:FuncId:=124
@[reducible]def TU:FuncId:=125
@[reducible]def TT:FuncId:=126
@[reducible]def Gl:FuncId:=127
@[reducible]def K8:FuncId:=128
@[reducible]def K7:FuncId:=129
@[reducible]def YY:FuncId:=130
@[reducible]def K6:FuncId:=131
@[reducible]def NY:FuncId:=132
@[reducible]def K5:FuncId:=133
@[reducible]def K4:FuncId:=134
@[reducible]def Gk:FuncId:=135
@[reducible]def P8:FuncId:=136
@[reducible]def Gj:FuncId:=137
@[reducible]def NW:FuncId:=138
@[reducible]def RA:FuncId:=139
@[reducible]def GK:FuncId:=140
@[reducible]def Gi:FuncId:=141
@[reducible]def Gh:FuncId:=142
@[reducible]def GJ:FuncId:=143
@[reducible]def P7:FuncId:=144
@[reducible]def NV:FuncId:=145
@[reducible]def Gg:FuncId:=146
@[reducible]def g8X:FuncId:=147
@[reducible]def Uw:FuncId:=148
@[reducible]def Gf:FuncId:=149
@[reducible]def NU:FuncId:=150
@[reducible]def P6:FuncId:=151
@[reducible]def K3:FuncId:=152
@[reducible]def K0:FuncId:=153
@[reducible]def g9X:FuncId:=154
@[reducible]def g0Y:FuncId:=155
@[reducible]def g1Y:FuncId:=156
@[reducible]def g2Y:FuncId:=157
@[reducible]def g3Y:FuncId:=158
@[reducible]def g4Y:FuncId:=159
@[reducible]def g5Y:FuncId:=160
@[reducible]def g6Y:FuncId:=161
@[reducible]def g7Y:FuncId:=162
@[reducible]def g8Y:FuncId:=163
@[reducible]def Ge:FuncId:=164
@[reducible]def Gd:FuncId:=165
@[reducible]def P5:FuncId:=166
@[reducible]def KZ:FuncId:=167
@[reducible]def Zb:FuncId:=168
@[reducible]def NT:FuncId:=169
@[reducible]def KY:FuncId:=170
@[reducible]def Gc:FuncId:=171
@[reducible]def Gb:FuncId:=172
@[reducible]def Rz:FuncId:=173
@[reducible]def KX:FuncId:=174
@[reducible]def Ry:FuncId:=175
@[reducible]def Ga:FuncId:=176
@[reducible]def P4:FuncId:=177
@[reducible]def KW:FuncId:=178
@[reducible]def F9:FuncId:=179
@[reducible]def F8:FuncId:=180
@[reducible]def g9Y:FuncId:=181
@[reducible]def g0Z:FuncId:=182
@[reducible]def g1Z:FuncId:=183
@[reducible]def g2Z:FuncId:=184
@[reducible]def g3Z:FuncId:=185
@[reducible]def g4Z:FuncId:=186
@[reducible]def g5Z:FuncId:=187
@[reducible]def g6Z:FuncId:=188
@[reducible]def g7Z:FuncId:=189
@[reducible]def SM:FuncId:=190
@[reducible]def F7:FuncId:=191
@[reducible]def P3:FuncId:=192
@[reducible]def SL:FuncId:=193
@[reducible]def g8Z:FuncId:=194
@[reducible]def g9Z:FuncId:=195
@[reducible]def h0a:FuncId:=196
@[reducible]def h1a:FuncId:=197
@[reducible]def h2a:FuncId:=198
@[reducible]def KV:FuncId:=199
@[reducible]def KU:FuncId:=200
@[reducible]def KT:FuncId:=201
@[reducible]def NS:FuncId:=202
@[reducible]def KS:FuncId:=203
@[reducible]def NR:FuncId:=204
@[reducible]def NQ:FuncId:=205
@[reducible]def Rx:FuncId:=206
@[reducible]def F6:FuncId:=207
@[reducible]def h3a:FuncId:=208
@[reducible]def h4a:FuncId:=209
@[reducible]def h5a:FuncId:=210
@[reducible]def h6a:FuncId:=211
@[reducible]def KR:FuncId:=212
@[reducible]def h7a:FuncId:=213
@[reducible]def F5:FuncId:=214
@[reducible]def NP:FuncId:=215
@[reducible]def NN:FuncId:=216
@[reducible]def NM:FuncId:=217
@[reducible]def h8a:FuncId:=218
@[reducible]def h9a:FuncId:=234
end Go.Rt
end

section
namespace Go.Vm
@[simp]abbrev oo(d:Nat)(r:V7):Yd:=⟨some d,none,r⟩
@[simp]abbrev on(r:V7):Yd:=⟨none,none,r⟩
@[simp]abbrev og(d j:Nat)(b:Bool)(r:V7):Yd:=⟨some d,some (j,b),r⟩
@[simp]abbrev zi:AV:= .iv (.v (.int .i64 0))
@[simp]abbrev zb:AV:= .iv (.v (.bool false))
@[simp]abbrev zs:AV:= .iv (.v (.string ⟨#[]⟩))
@[simp]abbrev ki(n:Int):Value:= .int .i64 n
@[simp]abbrev kb(b:Bool):Value:= .bool b
@[simp]abbrev T(n:Nat):Operand:= .tmp n
@[simp]abbrev K(n:Int):Operand:= .const (.int .i64 n)
@[simp]abbrev B(b:Bool):Operand:= .const (.bool b)
abbrev LO:=List Yd
@[simp]abbrev oc(d:Nat)(r:V7)(t:VT):VT:= .op ⟨some d,none,r⟩ t
@[simp]abbrev X1(d g:Nat)(f:FuncId)(x:Nat):Yd:=⟨some d,some (g,false), .call f [.tmp x]⟩
@[simp]abbrev X2(d g:Nat)(f:FuncId)(x y:Nat):Yd:=⟨some d,some (g,false), .call f [.tmp x, .tmp y]⟩
@[simp]abbrev U3(d g:Nat)(f:FuncId)(x y z:Nat):Yd:=⟨some d,some (g,false), .call f [.tmp x, .tmp y, .tmp z]⟩
@[simp]abbrev W5(d g:Nat)(f:FuncId)(x y z u v:Nat):Yd:=⟨some d,some (g,false), .call f [.tmp x, .tmp y, .tmp z, .tmp u, .tmp v]⟩
@[simp]abbrev qc(d g:Nat)(o:BinOp)(x:Nat)(y:Int):Yd:=⟨some d,some (g,false), .bin o (.tmp x) (.const (.int .i64 y))⟩
@[simp]abbrev jf(d g:Nat)(n x:Nat):Yd:=⟨some d,some (g,false), .fa n (.tmp x)⟩
@[simp]abbrev Yh(d g:Nat)(x:Nat):Yd:=⟨some d,some (g,false), .oO (.tmp x)⟩
@[simp]abbrev qi(d g:Nat)(n x y:Nat):Yd:=⟨some d,some (g,false), .ia n (.tmp x) (.tmp y)⟩
@[simp]abbrev ql(d g:Nat)(x:Nat):Yd:=⟨some d,some (g,false), .ld (.tmp x) none⟩
@[simp]abbrev qm(d g:Nat)(x:Nat):Yd:=⟨some d,some (g,false), .QH (.tmp x)⟩
@[simp]abbrev Yn(d g:Nat)(x:Nat):Yd:=⟨some d,some (g,false), .len (.tmp x)⟩
@[simp]abbrev qp(d g:Nat)(x y:Nat):Yd:=⟨some d,some (g,false), .pick (.tmp x) (.tmp y) (.const (.bool false))⟩
@[simp]abbrev Ws(d g:Nat)(x n:Nat):Yd:=⟨some d,some (g,false), .ld (.tmp x) (some n)⟩
@[simp]abbrev qt(d g:Nat)(o:BinOp)(x y:Nat):Yd:=⟨some d,some (g,false), .bin o (.tmp x) (.tmp y)⟩
@[simp]abbrev Yu(d g:Nat)(x:Nat):Yd:=⟨some d,some (g,false), .un .not (.tmp x)⟩
@[simp]abbrev wo(x y n:Nat):Yd:=⟨none,none, .st (.tmp x) (.tmp y) n⟩
@[simp]abbrev V1(d:Nat)(f:FuncId)(x:Nat)(t:VT):VT:= .op ⟨some d,none, .call f [.tmp x]⟩ t
@[simp]abbrev V2(d:Nat)(f:FuncId)(x y:Nat)(t:VT):VT:= .op ⟨some d,none, .call f [.tmp x, .tmp y]⟩ t
@[simp]abbrev W3(d:Nat)(f:FuncId)(x y z:Nat)(t:VT):VT:= .op ⟨some d,none, .call f [.tmp x, .tmp y, .tmp z]⟩ t
@[simp]abbrev j4(d:Nat)(f:FuncId)(x y z u:Nat)(t:VT):VT:= .op ⟨some d,none, .call f [.tmp x, .tmp y, .tmp z, .tmp u]⟩ t
@[simp]abbrev j5(d:Nat)(f:FuncId)(x y z u v:Nat)(t:VT):VT:= .op ⟨some d,none, .call f [.tmp x, .tmp y, .tmp z, .tmp u, .tmp v]⟩ t
@[simp]abbrev yc(d:Nat)(o:BinOp)(x:Nat)(y:Int)(t:VT):VT:= .op ⟨some d,none, .bin o (.tmp x) (.const (.int .i64 y))⟩ t
@[simp]abbrev ve(d:Nat)(n x:Nat)(t:VT):VT:= .op ⟨some d,none, .ext n (.tmp x)⟩ t
@[simp]abbrev Yf(d:Nat)(n x:Nat)(t:VT):VT:= .op ⟨some d,none, .fa n (.tmp x)⟩ t
@[simp]abbrev vh(d:Nat)(x:Nat)(t:VT):VT:= .op ⟨some d,none, .oO (.tmp x)⟩ t
@[simp]abbrev yi(d:Nat)(n x y:Nat)(t:VT):VT:= .op ⟨some d,none, .ia n (.tmp x) (.tmp y)⟩ t
@[simp]abbrev vk(d:Nat)(x:Int)(t:VT):VT:= .op ⟨some d,none, .QH (.const (.int .i64 x))⟩ t
@[simp]abbrev yl(d:Nat)(x:Nat)(t:VT):VT:= .op ⟨some d,none, .ld (.tmp x) none⟩ t
@[simp]abbrev ym(d:Nat)(x:Nat)(t:VT):VT:= .op ⟨some d,none, .QH (.tmp x)⟩ t
@[simp]abbrev vn(d:Nat)(x:Nat)(t:VT):VT:= .op ⟨some d,none, .len (.tmp x)⟩ t
@[simp]abbrev yp(d:Nat)(x y:Nat)(t:VT):VT:= .op ⟨some d,none, .pick (.tmp x) (.tmp y) (.const (.bool false))⟩ t
@[simp]abbrev vq(d:Nat)(x y:Nat)(t:VT):VT:= .op ⟨some d,none, .pick (.tmp x) (.const (.bool true)) (.tmp y)⟩ t
@[simp]abbrev Ys(d:Nat)(x n:Nat)(t:VT):VT:= .op ⟨some d,none, .ld (.tmp x) (some n)⟩ t
@[simp]abbrev vt(d:Nat)(o:BinOp)(x y:Nat)(t:VT):VT:= .op ⟨some d,none, .bin o (.tmp x) (.tmp y)⟩ t
@[simp]abbrev vu(d:Nat)(x:Nat)(t:VT):VT:= .op ⟨some d,none, .un .not (.tmp x)⟩ t
@[simp]abbrev w0(d:Nat)(f:FuncId):Yd:=⟨some d,none, .call f []⟩
@[simp]abbrev Y1(d:Nat)(f:FuncId)(x:Nat):Yd:=⟨some d,none, .call f [.tmp x]⟩
@[simp]abbrev Y2(d:Nat)(f:FuncId)(x y:Nat):Yd:=⟨some d,none, .call f [.tmp x, .tmp y]⟩
@[simp]abbrev Y3(d:Nat)(f:FuncId)(x y z:Nat):Yd:=⟨some d,none, .call f [.tmp x, .tmp y, .tmp z]⟩
@[simp]abbrev Y4(d:Nat)(f:FuncId)(x y z u:Nat):Yd:=⟨some d,none, .call f [.tmp x, .tmp y, .tmp z, .tmp u]⟩
@[simp]abbrev Y5(d:Nat)(f:FuncId)(x y z u v:Nat):Yd:=⟨some d,none, .call f [.tmp x, .tmp y, .tmp z, .tmp u, .tmp v]⟩
@[simp]abbrev wb(d:Nat)(x:Bool):Yd:=⟨some d,none, .QH (.const (.bool x))⟩
@[simp]abbrev wc(d:Nat)(o:BinOp)(x:Nat)(y:Int):Yd:=⟨some d,none, .bin o (.tmp x) (.const (.int .i64 y))⟩
@[simp]abbrev we(d:Nat)(n x:Nat):Yd:=⟨some d,none, .ext n (.tmp x)⟩
@[simp]abbrev yf(d:Nat)(n x:Nat):Yd:=⟨some d,none, .fa n (.tmp x)⟩
@[simp]abbrev wh(d:Nat)(x:Nat):Yd:=⟨some d,none, .oO (.tmp x)⟩
@[simp]abbrev wi(d:Nat)(n x y:Nat):Yd:=⟨some d,none, .ia n (.tmp x) (.tmp y)⟩
@[simp]abbrev wk(d:Nat)(x:Int):Yd:=⟨some d,none, .QH (.const (.int .i64 x))⟩
@[simp]abbrev wl(d:Nat)(x:Nat):Yd:=⟨some d,none, .ld (.tmp x) none⟩
@[simp]abbrev wm(d:Nat)(x:Nat):Yd:=⟨some d,none, .QH (.tmp x)⟩
@[simp]abbrev wn(d:Nat)(x:Nat):Yd:=⟨some d,none, .len (.tmp x)⟩
@[simp]abbrev wp(d:Nat)(x y:Nat):Yd:=⟨some d,none, .pick (.tmp x) (.tmp y) (.const (.bool false))⟩
@[simp]abbrev wq(d:Nat)(x y:Nat):Yd:=⟨some d,none, .pick (.tmp x) (.const (.bool true)) (.tmp y)⟩
@[simp]abbrev ws(d:Nat)(x n:Nat):Yd:=⟨some d,none, .ld (.tmp x) (some n)⟩
@[simp]abbrev wt(d:Nat)(o:BinOp)(x y:Nat):Yd:=⟨some d,none, .bin o (.tmp x) (.tmp y)⟩
@[simp]abbrev wu(d:Nat)(x:Nat):Yd:=⟨some d,none, .un .not (.tmp x)⟩
@[simp]abbrev wx(d:Nat)(x:Nat):Yd:=⟨some d,none, .box (.tmp x)⟩
@[simp]abbrev wz(d:Nat)(n:Nat):Yd:=⟨some d,none, .GY n⟩
@[simp]abbrev U1(d g:Nat)(f:FuncId)(x:Nat):Yd:=⟨some d,some (g,true), .call f [.tmp x]⟩
@[simp]abbrev U2(d g:Nat)(f:FuncId)(x y:Nat):Yd:=⟨some d,some (g,true), .call f [.tmp x, .tmp y]⟩
@[simp]abbrev V3(d g:Nat)(f:FuncId)(x y z:Nat):Yd:=⟨some d,some (g,true), .call f [.tmp x, .tmp y, .tmp z]⟩
@[simp]abbrev W4(d g:Nat)(f:FuncId)(x y z u:Nat):Yd:=⟨some d,some (g,true), .call f [.tmp x, .tmp y, .tmp z, .tmp u]⟩
@[simp]abbrev u5(d g:Nat)(f:FuncId)(x y z u v:Nat):Yd:=⟨some d,some (g,true), .call f [.tmp x, .tmp y, .tmp z, .tmp u, .tmp v]⟩
@[simp]abbrev Yc(d g:Nat)(o:BinOp)(x:Nat)(y:Int):Yd:=⟨some d,some (g,true), .bin o (.tmp x) (.const (.int .i64 y))⟩
@[simp]abbrev qf(d g:Nat)(n x:Nat):Yd:=⟨some d,some (g,true), .fa n (.tmp x)⟩
@[simp]abbrev yh(d g:Nat)(x:Nat):Yd:=⟨some d,some (g,true), .oO (.tmp x)⟩
@[simp]abbrev Yi(d g:Nat)(n x y:Nat):Yd:=⟨some d,some (g,true), .ia n (.tmp x) (.tmp y)⟩
@[simp]abbrev Yl(d g:Nat)(x:Nat):Yd:=⟨some d,some (g,true), .ld (.tmp x) none⟩
@[simp]abbrev Ym(d g:Nat)(x:Nat):Yd:=⟨some d,some (g,true), .QH (.tmp x)⟩
@[simp]abbrev yn(d g:Nat)(x:Nat):Yd:=⟨some d,some (g,true), .len (.tmp x)⟩
@[simp]abbrev yq(d g:Nat)(x y:Nat):Yd:=⟨some d,some (g,true), .pick (.tmp x) (.const (.bool true)) (.tmp y)⟩
@[simp]abbrev qs(d g:Nat)(x n:Nat):Yd:=⟨some d,some (g,true), .ld (.tmp x) (some n)⟩
@[simp]abbrev Yt(d g:Nat)(o:BinOp)(x y:Nat):Yd:=⟨some d,some (g,true), .bin o (.tmp x) (.tmp y)⟩
@[simp]abbrev yu(d g:Nat)(x:Nat):Yd:=⟨some d,some (g,true), .un .not (.tmp x)⟩
@[simp]abbrev V(o:Yd)(t:VT):VT:= .op o t
@[simp]abbrev Q(a b:Z9):Z9:= .seq a b
@[simp]abbrev R(l:List Yd):Z9:= .Dl l
@[simp]abbrev C(x:Operand)(a b:Z9):Z9:= .cond x a b
@[simp]abbrev CX(x n:Nat):Z9:= .cond (.tmp x) .skip (.exit n)
@[simp]abbrev CR(x:Nat)(l:List Yd):Z9:= .cond (.tmp x) (.seq (.Dl l) .ret) .skip
@[simp]abbrev CT(x:Nat)(a b:Z9):Z9:= .cond (.tmp x) a b
@[simp]abbrev QR(l:List Yd)(b:Z9):Z9:= .seq (.Dl l) b
end Go.Vm
end

section
namespace Go.Rt
open Go.Vm
@[simp]def f3w:=[wb 2 false]
@[simp]def f4w:=[wm 5 0,wn 6 5,wc 7 .eql 6 0]
@[simp]def f5w:=[wb 2 false]
@[simp]def f6w:=[wk 3 0]
@[simp]def f7w:=[wm 8 3,wm 9 0,wn 10 9,wt 11 .lss 8 10]
@[simp]def f8w:=[wm 14 0,wm 15 3,wc 16 .add 15 1,wm 17 0,wn 18 17,wt 19 .rem 16 18,wi 20 8 14 19,ws 21 20 8,oo 4 (.alloc [zi,zi,zi,zi,zb,zi,zs,zb]),wo 4 21 8]
@[simp]def f9w:VT:=
 ym 22 0<|ym 23 3<|yi 24 8 22 23<|Yf 25 1 24<|yl 26 25<|Yf 27 0 4<|yl 28 27<|vt 29 .neq 26 28<|ym 30 29<|V (qm 31 30 0)<|V (qm 32 30 3)<|V (og 33 30 false (.cut 8 (T 31) none (some (T 32))))<|V (qm 34 30 0)<|V (qm 35 30 3)<|V (qi 36 30 8 34 35)<|V (jf 37 30 1 36)<|V (ql 38 30 37)<|V (X2 39 30 Lk 33 38)<|vq 40 30 39<|.done
@[simp]def f0x:=[wb 2 false]
@[simp]def f1x:=[wm 12 3,wc 13 .add 12 1,wm 3 13]
def FK:Z9:=
 (Q (QR f7w (CX 11 0)) (Q (.block 1 (QR f8w (Q (.any f9w) (CR 40 f0x)))) (R f1x)))
@[simp]def qI:=[wb 2 true]
def a1l:Z9:=(QR f3w (Q (QR f4w (CR 7 f5w)) (Q (QR f6w (.block 0 (.loop FK))) (QR qI .ret))))
theorem lZ:ZG prog N9=some (41,a1l,[.tmp 2]):=by kernel_rfl
@[simp]def f2x:=[wz 4 1,wb 5 false]
@[simp]def f3x:=[wz 6 1]
@[simp]def f4x:=[wk 7 0]
@[simp]def f5x:=[wm 14 7,wm 15 1,wn 16 15,wt 17 .lss 14 16]
@[simp]def f6x:=[wm 20 6,wm 21 1,wm 22 7,wi 23 1 21 22,wl 24 23,Y2 25 Qc 20 24,wc 26 .lss 25 0]
@[simp]def f7x:=[wm 27 6,wm 28 1,wm 29 7,wi 30 1 28 29,wl 31 30,oo 32 (.lit 1 1 [(0,(T 31))]),oo 33 (.app 1 8 (T 27) (T 32)),wm 6 33]
@[simp]def f8x:=[wm 18 7,wc 19 .add 18 1,wm 7 19]
def LM:Z9:=
 (Q (QR f5x (CX 17 0)) (Q (.block 1 (QR f6x (CT 26 (R f7x) .skip))) (R f8x)))
@[simp]def f9x:=[wz 8 1]
@[simp]def f0y:=[wm 34 6,wn 35 34,wc 36 .gtr 35 0]
@[simp]def qH:=[wk 9 (-1)]
@[simp]def qG:=[wk 10 0]
@[simp]def qF:=[wm 37 10,wm 38 6,wn 39 38,wt 40 .lss 37 39]
@[simp]def qE:=[wb 11 true]
@[simp]def qD:=[wk 12 0]
@[simp]def qC:=[wm 43 12,wm 44 0,wn 45 44,wt 46 .lss 43 45]
@[simp]def qB:VT:=
 ym 49 0<|ym 50 12<|yi 51 8 49 50<|Yf 52 1 51<|yl 53 52<|ym 54 6<|ym 55 10<|yi 56 1 54 55<|yl 57 56<|vt 58 .eql 53 57<|ym 59 58<|V (Ym 60 59 6)<|V (Ym 61 59 0)<|V (Ym 62 59 12)<|V (Yi 63 59 8 61 62)<|V (qf 64 59 0 63)<|V (Yl 65 59 64)<|V (U2 66 59 Qc 60 65)<|V (Yc 67 59 .geq 66 0)<|yp 68 59 67<|.done
@[simp]def qA:=[wb 11 false]
@[simp]def qz:=[wm 47 12,wc 48 .add 47 1,wm 12 48]
def Vr:Z9:=
 (Q (QR qC (CX 46 6)) (Q (.block 7 (Q (.any qB) (CT 68 (R qA) .skip))) (R qz)))
@[simp]def qy:VT:=
 ym 69 11<|ym 70 69<|V (Ym 71 70 9)<|V (Yc 72 70 .lss 71 0)<|V (Ym 73 70 72)<|V (qm 74 73 6)<|V (qm 75 73 10)<|V (qi 76 73 1 74 75)<|V (ql 77 73 76)<|V (qm 78 73 6)<|V (qm 79 73 9)<|V (qi 80 73 1 78 79)<|V (ql 81 73 80)<|V (qt 82 73 .lss 77 81)<|V (yq 83 70 73 82)<|yp 84 70 83<|.done
@[simp]def qx:=[wm 85 10,wm 9 85]
@[simp]def qw:=[wm 41 10,wc 42 .add 41 1,wm 10 42]
def Oz:Z9:=
 (Q (QR qF (CX 40 4)) (Q (.block 5 (QR qE (Q (QR qD (.block 6 (.loop Vr))) (Q (.any qy) (CT 84 (R qx) .skip))))) (R qw)))
@[simp]def qv:=[wm 86 9,wc 87 .lss 86 0]
@[simp]def qu:=[wz 4 1,wb 5 false]
@[simp]def qq:=[wm 88 8,wm 89 6,wm 90 9,wi 91 1 89 90,wl 92 91,oo 93 (.lit 1 1 [(0,(T 92))]),oo 94 (.app 1 8 (T 88) (T 93)),wm 8 94]
@[simp]def qo:=[wz 13 1]
@[simp]def qn:=[wm 95 13,wm 96 6,wm 97 9,oo 98 (.cut 1 (T 96) none (some (T 97))),oo 99 (.app 1 8 (T 95) (T 98)),wm 13 99]
@[simp]def qk:=[wm 100 13,wm 101 6,wm 102 9,wc 103 .add 102 1,oo 104 (.cut 1 (T 101) (some (T 103)) none),oo 105 (.app 1 8 (T 100) (T 104)),wm 13 105]
@[simp]def qj:=[wm 106 13,wm 6 106]
def Oy:Z9:=
 (Q (QR f0y (CX 36 2)) (.block 3 (QR qH (Q (QR qG (.block 4 (.loop Oz))) (Q (QR qv (CR 87 qu)) (QR qq (QR qo (QR qn (QR qk (R qj))))))))))
@[simp]def qh:=[wm 107 8,wm 4 107,wb 5 true]
def a2l:Z9:=(QR f2x (QR f3x (Q (QR f4x (.block 0 (.loop LM))) (QR f9x (Q (.block 2 (.loop Oy)) (QR qh .ret))))))
theorem f1y:ZG prog Qj=some (108,a2l,[.tmp 4, .tmp 5]):=by kernel_rfl
@[simp]def f2y:=[wb 4 false]
@[simp]def f3y:=[wk 5 0]
@[simp]def f4y:=[wm 8 5,wm 9 0,wn 10 9,wt 11 .lss 8 10]
@[simp]def f5y:=[wm 14 1,wm 15 0,wm 16 5,wi 17 8 15 16,yf 18 0 17,wl 19 18,Y2 20 Qc 14 19,wm 6 20]
@[simp]def f6y:=[wm 21 1,wm 22 0,wm 23 5,wi 24 8 22 23,yf 25 1 24,wl 26 25,Y2 27 Qc 21 26,wm 7 27]
@[simp]def f7y:=[wm 28 6,wc 29 .geq 28 0,wm 30 29,Ym 31 30 7,Yc 32 30 .geq 31 0,wp 33 30 32,wm 34 33,Ym 35 34 6,Ym 36 34 7,Yt 37 34 .geq 35 36,wp 38 34 37]
@[simp]def f8y:=[wb 4 false]
@[simp]def f9y:=[wm 12 5,wc 13 .add 12 1,wm 5 13]
def FO:Z9:=
 (Q (QR f4y (CX 11 0)) (Q (.block 1 (QR f5y (QR f6y (QR f7y (CR 38 f8y))))) (R f9y)))
@[simp]def f0z:=[wb 4 true]
def a3l:Z9:=(QR f2y (Q (QR f3y (.block 0 (.loop FO))) (QR f0z .ret)))
theorem mg:ZG prog GH=some (39,a3l,[.tmp 4]):=by kernel_rfl
@[simp]def f1z:=[wz 6 8]
@[simp]def f2z:=[wm 12 1,Y1 13 TU 12,wm 7 13]
@[simp]def f3z:=[wm 14 0,wn 15 14,wk 16 0]
@[simp]def f4z:=[wt 17 .lss 16 15]
@[simp]def f5z:=[wi 18 8 14 16,ws 19 18 8,oo 9 (.alloc [zi,zi,zi,zi,zb,zi,zs,zb]),wo 9 19 8]
@[simp]def f6z:=[wm 20 7,ws 21 9 8,oo 22 (.Zc (T 20) [(T 21)]),wu 23 22]
@[simp]def f7z:VT:=
 yl 29 28<|V1 31 TU 30<|j4 32 TT 25 27 29 31<|ym 24 32<|ve 33 0 24<|ve 34 1 24<|ym 10 33<|ym 11 34<|.done
@[simp]def f8z:VT:=
 V1 31 TU 30<|yl 29 28<|j4 32 TT 25 27 29 31<|ym 24 32<|ve 33 0 24<|ve 34 1 24<|ym 10 33<|ym 11 34<|.done
@[simp]def f9z:VT:=
 yl 27 26<|.alt (f7z) (f8z)
@[simp]def f0A:VT:=
 yl 27 26<|V1 31 TU 30<|j4 32 TT 25 27 29 31<|ym 24 32<|ve 33 0 24<|ve 34 1 24<|ym 10 33<|ym 11 34<|.done
@[simp]def f1A:VT:=
 V1 31 TU 30<|yl 27 26<|j4 32 TT 25 27 29 31<|ym 24 32<|ve 33 0 24<|ve 34 1 24<|ym 10 33<|ym 11 34<|.done
@[simp]def f2A:VT:=
 yl 29 28<|.alt (f0A) (f1A)
@[simp]def f3A:VT:=
 V1 31 TU 30<|yl 27 26<|yl 29 28<|j4 32 TT 25 27 29 31<|ym 24 32<|ve 33 0 24<|ve 34 1 24<|ym 10 33<|ym 11 34<|.done
@[simp]def f4A:VT:=
 ym 25 0<|Yf 26 1 9<|Yf 28 0 9<|ym 30 2<|.alt (f9z) (.alt (f2A) (f3A))
@[simp]def f5A:=[wm 35 11]
@[simp]def f6A:=[ws 36 9 8,oo 37 (.lit 8 1 [(0,(T 36))]),wm 38 10,oo 39 (.app 8 72 (T 37) (T 38)),wm 6 39]
@[simp]def f7A:=[wc 40 .add 16 1,wm 16 40]
def Pq:Z9:=
 (QR f4z (Q (CX 17 0) (Q (.block 1 (QR f5z (Q (QR f6z (CT 23 (.exit 1) .skip)) (Q (.any f4A) (QR f5A (CR 35 f6A)))))) (R f7A))))
@[simp]def qg:=[wz 6 8]
def a4l:Z9:=(QR f1z (QR f2z (Q (QR f3z (.block 0 (.loop Pq))) (QR qg .ret))))
theorem kK:ZG prog SN=some (41,a4l,[.tmp 6]):=by kernel_rfl
@[simp]def f8A:=[wz 4 8]
@[simp]def f9A:=[wm 8 0,wm 9 1,Y2 10 Gl 8 9,wm 5 10]
@[simp]def f0B:=[wm 11 5,wc 12 .eql 11 (-1)]
@[simp]def f1B:=[wm 13 0,wm 4 13]
@[simp]def f2B:=[wm 14 5,wc 15 .add 14 1,wm 6 15]
@[simp]def f3B:=[wm 16 6,wm 17 0,wn 18 17,wt 19 .lss 16 18]
@[simp]def f4B:=[wm 22 0,wm 23 6,wi 24 8 22 23,ws 25 24 8,oo 7 (.alloc [zi,zi,zi,zi,zb,zi,zs,zb]),wo 7 25 8]
@[simp]def f5B:=[wm 26 1,ws 27 7 8,oo 28 (.Zc (T 26) [(T 27)]),wu 29 28]
@[simp]def f6B:=[wm 30 0,wm 31 5,ws 32 7 8,wi 33 8 30 31,wo 33 32 8]
@[simp]def f7B:=[wm 34 5,wc 35 .add 34 1,wm 5 35]
@[simp]def qe:=[wm 20 6,wc 21 .add 20 1,wm 6 21]
def PC:Z9:=
 (Q (QR f3B (CX 19 0)) (Q (.block 1 (QR f4B (QR f5B (CT 29 (QR f6B (R f7B)) .skip)))) (R qe)))
@[simp]def qd:=[wm 36 0,wm 37 5,oo 38 (.cut 8 (T 36) (some (T 37)) none),on (.clr 8 [zi,zi,zi,zi,zb,zi,zs,zb] (T 38))]
@[simp]def qb:=[wm 39 0,wm 40 5,oo 41 (.cut 8 (T 39) none (some (T 40))),wm 4 41]
def a5l:Z9:=(QR f8A (QR f9A (Q (QR f0B (CR 12 f1B)) (Q (QR f2B (.block 0 (.loop PC))) (QR qd (QR qb .ret))))))
theorem FF:ZG prog N6=some (42,a5l,[.tmp 4]):=by kernel_rfl
@[simp]def g5V:=[wz 2 8]
@[simp]def g6V:=[wm 3 0,oo 4 (.PG false (T 3))]
@[simp]def g7V:=[wz 2 8]
@[simp]def g8V:=[oo 5 (.lit 8 0 []),wm 6 0,oo 7 (.app 8 72 (T 5) (T 6)),wm 2 7]
@[simp]def f8B:=[wx 4 1,wx 5 2,wz 6 8]
@[simp]def f9B:=[wk 7 0]
@[simp]def f0C:=[wm 11 7,wm 12 0,wn 13 12,wt 14 .lss 11 13]
@[simp]def f1C:VT:=
 Ys 17 4 7<|ym 18 0<|ym 19 7<|yi 20 8 18 19<|Ys 21 20 8<|V2 22 K8 17 21<|ym 8 22<|.done
@[simp]def f2C:=[wm 23 8,wu 24 23]
@[simp]def f3C:=[wk 9 0]
@[simp]def f4C:=[wm 25 9,wm 26 0,wn 27 26,wt 28 .leq 25 27]
@[simp]def f5C:VT:=
 ym 31 0<|ym 32 0<|ym 33 7<|yi 34 8 32 33<|Ys 35 34 8<|Ys 37 5 7<|ym 38 9<|oc 36 (.lit 8 1 [(0,(T 35))])<|j4 39 K7 31 36 37 38<|ym 10 39<|.done
@[simp]def f6C:=[wm 40 10,wn 41 40,wc 42 .gtr 41 0]
@[simp]def f7C:=[wm 43 10,wm 6 43]
@[simp]def qa:=[wm 29 9,wc 30 .add 29 1,wm 9 30]
def Ps:Z9:=
 (Q (QR f4C (CX 28 2)) (Q (.block 3 (Q (.any f5C) (QR f6C (CR 42 f7C)))) (R qa)))
@[simp]def p9:=[wm 15 7,wc 16 .add 15 1,wm 7 16]
def Pt:Z9:=
 (Q (QR f0C (CX 14 0)) (Q (.block 1 (Q (.any f1C) (Q (QR f2C (CT 24 (.exit 1) .skip)) (QR f3C (.block 2 (.loop Ps)))))) (R p9)))
@[simp]def p8:=[wz 6 8]
def a7l:Z9:=(QR f8B (Q (QR f9B (.block 0 (.loop Pt))) (QR p8 .ret)))
theorem kV:ZG prog TV=some (44,a7l,[.tmp 6]):=by kernel_rfl
@[simp]def f8C:=[wb 4 false]
@[simp]def f9C:=[wk 5 0]
@[simp]def f0D:=[wm 6 5,wm 7 0,wn 8 7,wt 9 .lss 6 8]
@[simp]def f1D:=[wm 12 0,wm 13 5,wi 14 8 12 13,yf 15 1 14,wl 16 15,wm 17 1,wt 18 .eql 16 17]
@[simp]def f2D:=[wb 4 true]
@[simp]def f3D:=[wm 10 5,wc 11 .add 10 1,wm 5 11]
def DN:Z9:=
 (Q (QR f0D (CX 9 0)) (Q (.block 1 (QR f1D (CR 18 f2D))) (R f3D)))
@[simp]def f4D:=[wb 4 false]
def e5l:Z9:=(QR f8C (Q (QR f9C (.block 0 (.loop DN))) (QR f4D .ret)))
theorem f5D:ZG prog Lk=some (19,e5l,[.tmp 4]):=by kernel_rfl
@[simp]def f6D:=[wk 4 0]
@[simp]def f7D:=[wk 5 0]
@[simp]def f8D:=[wm 6 5,wm 7 0,wn 8 7,wt 9 .lss 6 8]
@[simp]def f9D:=[wm 12 0,wm 13 5,wi 14 1 12 13,wl 15 14,wm 16 1,wt 17 .eql 15 16]
@[simp]def f0E:=[wm 18 5,wm 4 18]
@[simp]def f1E:=[wm 10 5,wc 11 .add 10 1,wm 5 11]
def DM:Z9:=
 (Q (QR f8D (CX 9 0)) (Q (.block 1 (QR f9D (CR 17 f0E))) (R f1E)))
@[simp]def f2E:=[wk 4 (-1)]
def e6l:Z9:=(QR f6D (Q (QR f7D (.block 0 (.loop DM))) (QR f2E .ret)))
theorem f3E:ZG prog Qc=some (19,e6l,[.tmp 4]):=by kernel_rfl
@[simp]def f4E:=[wz 4 1,wb 5 false]
@[simp]def f5E:=[wm 15 1,Y1 16 RB 15,wm 6 16]
@[simp]def f6E:=[wm 17 6,Y1 18 Qb 17]
@[simp]def f7E:=[wm 19 6,Y1 20 K5 19,wm 6 20]
@[simp]def f8E:=[oo 21 (.XB (false,[.i .i64],false)),oo 7 (.alloc [.iv (.v (.map none))]),wo 7 21 1]
@[simp]def f9E:=[wm 22 0,wn 23 22,wk 24 0]
@[simp]def f0F:=[wt 25 .lss 24 23]
@[simp]def f1F:=[wi 26 8 22 24,ws 27 26 8,oo 9 (.alloc [zi,zi,zi,zi,zb,zi,zs,zb]),wo 9 27 8]
@[simp]def f2F:=[wm 28 6,yf 29 0 9,wl 30 29,Y2 31 K4 28 30]
@[simp]def f3F:=[wl 32 7,yf 33 1 9,wl 34 33,oo 35 (.UE (false,[.i .i64],false) [zi] (T 32) (T 34) false),wc 36 .add 35 1,on (.Yy (false,[.i .i64],false) (T 32) (T 34) (T 36))]
@[simp]def p7:=[wc 37 .add 24 1,wm 24 37]
def TE:Z9:=
 (QR f0F (Q (CX 25 0) (Q (.block 1 (QR f1F (QR f2F (CT 31 (R f3F) .skip)))) (R p7))))
@[simp]def pZ:=[wz 10 1]
@[simp]def pY:=[wm 38 6,wn 39 38,wc 40 .gtr 39 0]
@[simp]def pX:=[wm 41 6,oo 42 (.VO P8 [] [(T 7)]),Y2 43 Gk 41 42,wm 11 43]
@[simp]def pW:=[wm 44 11,wc 45 .lss 44 0]
@[simp]def pV:=[wz 4 1,wb 5 false]
@[simp]def pU:=[wm 46 6,wm 47 11,wi 48 1 46 47,wl 49 48,wm 12 49]
@[simp]def pT:=[wm 50 10,wm 51 12,oo 52 (.lit 1 1 [(0,(T 51))]),oo 53 (.app 1 8 (T 50) (T 52)),wm 10 53]
@[simp]def pS:=[wm 54 6,wm 55 11,wm 56 11,wc 57 .add 56 1,Y3 58 Gj 54 55 57,wm 6 58]
@[simp]def pR:=[wm 59 0,wn 60 59,wk 61 0]
@[simp]def pQ:=[wt 62 .lss 61 60]
@[simp]def pP:=[wi 63 8 59 61,ws 64 63 8,oo 14 (.alloc [zi,zi,zi,zi,zb,zi,zs,zb]),wo 14 64 8]
@[simp]def pO:=[yf 65 0 14,wl 66 65,wm 67 12,wt 68 .eql 66 67]
@[simp]def pN:=[wl 69 7,yf 70 1 14,wl 71 70,oo 72 (.UE (false,[.i .i64],false) [zi] (T 69) (T 71) false),wc 73 .sub 72 1,on (.Yy (false,[.i .i64],false) (T 69) (T 71) (T 73))]
@[simp]def pM:=[wc 74 .add 61 1,wm 61 74]
def R3:Z9:=
 (QR pQ (Q (CX 62 4) (Q (.block 5 (QR pP (QR pO (CT 68 (R pN) .skip)))) (R pM))))
def R5:Z9:=
 (Q (QR pY (CX 40 2)) (.block 3 (QR pX (Q (QR pW (CR 45 pV)) (QR pU (QR pT (QR pS (QR pR (.block 4 (.loop R3))))))))))
@[simp]def pL:=[wm 75 10,wm 4 75,wb 5 true]
def a0m:Z9:=(QR f4E (QR f5E (QR f6E (QR f7E (QR f8E (Q (QR f9E (.block 0 (.loop TE))) (QR pZ (Q (.block 2 (.loop R5)) (QR pL .ret)))))))))
theorem E6:ZG prog N4=some (76,a0m,[.tmp 4, .tmp 5]):=by kernel_rfl
@[simp]def f4F:=[wx 1 0,oo 2 (.QH (.const .nilFunc))]
@[simp]def f5F:=[oo 3 (.VO Rz [] [(T 1)]),wm 2 3]
def DL:Z9:=(QR f4F (QR f5F .ret))
theorem f6F:ZG prog TU=some (4,DL,[.tmp 2]):=by kernel_rfl
@[simp]def f7F:=[wz 8 8,wb 9 false]
@[simp]def f8F:=[oo 22 (.XB (false,[.i .i64],false)),wm 23 1,on (.Yy (false,[.i .i64],false) (T 22) (T 23) (K (-1))),wm 24 22,wm 10 24]
@[simp]def f9F:=[wm 25 1,oo 26 (.lit 1 1 [(0,(T 25))]),wm 11 26]
@[simp]def f0G:=[wm 27 1,wm 28 2,wt 29 .eql 27 28,wm 12 29]
@[simp]def f1G:=[wm 30 11,wn 31 30,wc 32 .gtr 31 0,wm 33 32,Ym 34 33 12,yu 35 33 34,wp 36 33 35]
@[simp]def f2G:=[wz 13 1]
@[simp]def f3G:=[wm 37 11,wn 38 37,wk 39 0]
@[simp]def f4G:=[wt 40 .lss 39 38]
@[simp]def f5G:=[wi 41 1 37 39,wl 42 41,wm 15 42]
@[simp]def f6G:=[wm 43 0,wn 44 43,wk 45 0]
@[simp]def pK:=[wt 46 .lss 45 44]
@[simp]def pJ:=[wm 47 45,wi 48 8 43 45,ws 49 48 8,oo 17 (.alloc [zi,zi,zi,zi,zb,zi,zs,zb]),wm 16 47,wo 17 49 8]
@[simp]def pI:=[yf 50 0 17,wl 51 50,wm 52 15,wt 53 .neq 51 52,wm 54 53,qm 55 54 3,Ws 56 54 17 8,og 57 54 false (.Zc (T 55) [(T 56)]),Yu 58 54 57,wq 59 54 58]
@[simp]def pH:=[wm 61 10,yf 62 1 17,wl 63 62,oo 64 (.UE (false,[.i .i64],false) [zi] (T 61) (T 63) true),wm 60 64,we 65 0 60,we 66 1 60,wm 18 65,wm 19 66]
@[simp]def pG:=[wm 67 19]
@[simp]def pF:=[wm 68 10,yf 69 1 17,wl 70 69,wm 71 16,on (.Yy (false,[.i .i64],false) (T 68) (T 70) (T 71))]
@[simp]def pE:=[yf 72 1 17,wl 73 72,wm 74 2,wt 75 .eql 73 74]
@[simp]def pD:=[wb 12 true]
@[simp]def pC:=[wm 76 13,yf 77 1 17,wl 78 77,oo 79 (.lit 1 1 [(0,(T 78))]),oo 80 (.app 1 8 (T 76) (T 79)),wm 13 80]
@[simp]def pB:=[wc 81 .add 45 1,wm 45 81]
def Vt:Z9:=
 (QR pK (Q (CX 46 4) (Q (.block 5 (QR pJ (Q (QR pI (CT 59 (.exit 5) .skip)) (Q (QR pH (QR pG (CT 67 (.exit 5) .skip))) (QR pF (Q (QR pE (CT 75 (QR pD (.exit 0)) .skip)) (R pC))))))) (R pB))))
@[simp]def pA:=[wc 82 .add 39 1,wm 39 82]
def OB:Z9:=
 (QR f4G (Q (CX 40 2) (Q (.block 3 (QR f5G (QR f6G (.block 4 (.loop Vt))))) (R pA))))
@[simp]def pz:=[wm 83 13,wm 11 83]
def RN:Z9:=
 (Q (QR f1G (CX 36 0)) (.block 1 (QR f2G (Q (QR f3G (.block 2 (.loop OB))) (R pz)))))
@[simp]def py:=[wz 20 8]
@[simp]def px:=[wm 84 2,wm 21 84]
@[simp]def pw:=[wm 85 12,wm 86 85,Ym 87 86 10,Ym 88 86 21,og 89 86 true (.UE (false,[.i .i64],false) [zi] (T 87) (T 88) false),Yc 90 86 .geq 89 0,wp 91 86 90]
@[simp]def pv:=[wm 99 20,wm 100 0,wm 101 10,wm 102 21,oo 103 (.UE (false,[.i .i64],false) [zi] (T 101) (T 102) false),wi 104 8 100 103,ws 105 104 8,oo 106 (.lit 8 1 [(0,(T 105))]),oo 107 (.app 8 72 (T 99) (T 106)),wm 20 107]
@[simp]def pq:=[wm 92 0,wm 93 10,wm 94 21,oo 95 (.UE (false,[.i .i64],false) [zi] (T 93) (T 94) false),wi 96 8 92 95,yf 97 0 96,wl 98 97,wm 21 98]
def UL:Z9:=
 (Q (QR pw (CX 91 6)) (Q (.block 7 (R pv)) (R pq)))
@[simp]def po:=[wm 108 20,Y1 109 KX 108]
@[simp]def pn:=[wm 110 20,wm 111 12,wm 8 110,wm 9 111]
def QX:Z9:=(QR f7F (.scope (QR f8F (QR f9F (QR f0G (Q .skip (Q (.block 0 (.loop RN)) (QR py (Q (QR px (.block 6 (.loop UL))) (QR po (QR pn .ret)))))))))))
theorem D2:ZG prog TT=some (112,QX,[.tmp 8, .tmp 9]):=by kernel_rfl
@[simp]def f7G:=[wk 4 0]
@[simp]def f8G:=[wm 6 0,wn 7 6,wk 8 0]
@[simp]def f9G:=[wt 9 .lss 8 7]
@[simp]def f0H:=[wm 10 8,wm 5 10]
@[simp]def f1H:=[wm 11 1,wm 12 0,wm 13 5,wi 14 8 12 13,ws 15 14 8,oo 16 (.Zc (T 11) [(T 15)])]
@[simp]def f2H:=[wm 17 5,wm 4 17]
@[simp]def f3H:=[wc 18 .add 8 1,wm 8 18]
def FG:Z9:=
 (QR f9G (Q (CX 9 0) (Q (.block 1 (QR f0H (QR f1H (CR 16 f2H)))) (R f3H))))
@[simp]def f4H:=[wk 4 (-1)]
def a4m:Z9:=(QR f7G (Q (QR f8G (.block 0 (.loop FG))) (QR f4H .ret)))
theorem lP:ZG prog Gl=some (19,a4m,[.tmp 4]):=by kernel_rfl
@[simp]def f5H:=[wx 2 0,wx 3 1,wb 4 false]
@[simp]def f6H:=[yf 5 2 3,wl 6 5,wc 7 .lss 6 1,wm 8 7,jf 9 8 2 3,ql 10 8 9,qc 11 8 .gtr 10 5,wq 12 8 11]
@[simp]def f7H:=[wb 4 false]
@[simp]def f8H:=[yf 13 0 2,wl 14 13,yf 15 2 3,wl 16 15,oo 17 (.cvt .u64 (T 16)),wt 18 .shr 14 17,wc 19 .and 18 1,wc 20 .eql 19 1,wm 21 20,qf 22 21 1 2,Yl 23 21 22,yu 24 21 23,Ym 25 21 24,jf 26 25 3 3,ql 27 25 26,jf 28 25 2 2,ql 29 25 28,qt 30 25 .eql 27 29,qm 31 25 30,qf 32 31 4 3,qs 33 31 32 3,qf 34 31 3 2,qs 35 31 34 3,og 36 31 true (.eqs false [.b, .i .i64, .s] (T 33) (T 35)),qp 37 25 31 36,yq 38 21 25 37,wp 39 21 38,wm 40 39,qf 41 40 6 2,Yl 42 40 41,yu 43 40 42,Ym 44 40 43,jf 45 44 7 3,ql 46 44 45,yq 47 40 44 46,wp 48 40 47,wm 4 48]
def a5m:Z9:=(QR f5H (Q (QR f6H (CR 12 f7H)) (QR f8H .ret)))
theorem kG:ZG prog K8=some (49,a5m,[.tmp 4]):=by kernel_rfl
@[simp]def f9H:=[wx 6 2,wz 8 8]
@[simp]def f0I:=[wm 15 1,wm 16 1,wn 17 16,wc 18 .sub 17 1,wi 19 8 15 18,ws 20 19 8,oo 9 (.alloc [zi,zi,zi,zi,zb,zi,zs,zb]),wo 9 20 8]
@[simp]def f1I:=[wm 21 3,wc 22 .eql 21 0]
@[simp]def f2I:VT:=
 Yf 23 1 9<|yl 24 23<|ym 25 1<|oc 26 (.ia 8 (T 25) (K 0))<|Yf 27 0 26<|yl 28 27<|vt 29 .eql 24 28<|.done
@[simp]def f3I:=[wm 30 1,wm 8 30]
@[simp]def f4I:=[wz 8 8]
@[simp]def f5I:=[wk 10 0]
@[simp]def f6I:=[wm 31 10,wm 32 0,wn 33 32,wt 34 .lss 31 33]
@[simp]def f7I:=[wm 37 0,wm 38 10,wi 39 8 37 38,ws 40 39 8,oo 11 (.alloc [zi,zi,zi,zi,zb,zi,zs,zb]),wo 11 40 8]
@[simp]def f8I:=[ws 41 6 7,ws 42 11 8,Y2 43 K8 41 42,wm 12 43]
@[simp]def pk:=[wm 44 12,wu 45 44,wm 46 45,jf 47 46 0 11,ql 48 46 47,jf 49 46 1 9,ql 50 46 49,qt 51 46 .neq 48 50,wq 52 46 51,wm 53 52,qm 54 53 1,jf 55 53 1 11,ql 56 53 55,X2 57 53 Lk 54 56,wq 58 53 57]
@[simp]def pj:=[wz 13 8]
@[simp]def ph:=[wm 59 13,wm 60 1,oo 61 (.app 8 72 (T 59) (T 60)),wm 13 61]
@[simp]def pg:=[wm 62 13,ws 63 11 8,oo 64 (.lit 8 1 [(0,(T 63))]),oo 65 (.app 8 72 (T 62) (T 64)),wm 13 65]
@[simp]def pf:=[wm 66 0,wm 67 13,ws 68 6 7,wm 69 3,wc 70 .sub 69 1,Y4 71 K7 66 67 68 70,wm 14 71]
@[simp]def pe:=[wm 72 14,wn 73 72,wc 74 .gtr 73 0]
@[simp]def pd:=[wm 75 14,wm 8 75]
@[simp]def pc:=[wm 35 10,wc 36 .add 35 1,wm 10 36]
def Po:Z9:=
 (Q (QR f6I (CX 34 0)) (Q (.block 1 (QR f7I (QR f8I (Q (QR pk (CT 58 (.exit 1) .skip)) (QR pj (QR ph (QR pg (QR pf (QR pe (CR 74 pd)))))))))) (R pc)))
@[simp]def pb:=[wz 8 8]
def e7l:Z9:=(QR f9H (QR f0I (Q (QR f1I (CT 22 (Q (Q (.any f2I) (CR 29 f3I)) (QR f4I .ret)) .skip)) (Q (QR f5I (.block 0 (.loop Po))) (QR pb .ret)))))
theorem E7:ZG prog K7=some (76,e7l,[.tmp 8]):=by kernel_rfl
@[simp]def f9I:=[wb 4 false]
@[simp]def f0J:=[wm 5 0,wm 6 1,Y2 7 Ga 5 6,wc 8 .geq 7 0,wm 4 8]
def IY:Z9:=(QR f9I (QR f0J .ret))
theorem f1J:ZG prog K4=some (9,IY,[.tmp 4]):=by kernel_rfl
@[simp]def f2J:=[wk 4 0]
@[simp]def f3J:=[wm 6 0,wn 7 6,wk 8 0]
@[simp]def f4J:=[wt 9 .lss 8 7]
@[simp]def f5J:=[wm 10 8,wm 5 10]
@[simp]def f6J:=[wm 11 1,wm 12 0,wm 13 5,wi 14 1 12 13,wl 15 14,oo 16 (.Zc (T 11) [(T 15)])]
@[simp]def f7J:=[wm 17 5,wm 4 17]
@[simp]def f8J:=[wc 18 .add 8 1,wm 8 18]
def DX:Z9:=
 (QR f4J (Q (CX 9 0) (Q (.block 1 (QR f5J (QR f6J (CR 16 f7J)))) (R f8J))))
@[simp]def f9J:=[wk 4 (-1)]
def I1:Z9:=(QR f2J (Q (QR f3J (.block 0 (.loop DX))) (QR f9J .ret)))
theorem f5v:ZG prog Gk=some (19,I1,[.tmp 4]):=by kernel_rfl
@[simp]def f0K:=[wb 3 false]
@[simp]def f1K:=[wl 4 1,wm 5 0,oo 6 (.UE (false,[.i .i64],false) [zi] (T 4) (T 5) false),wc 7 .eql 6 0,wm 3 7]
def a1n:Z9:=(QR f0K (QR f1K .ret))
theorem f4v:ZG prog P8=some (8,a1n,[.tmp 3]):=by kernel_rfl
@[simp]def f2K:=[wx 2 0,wb 3 false]
@[simp]def f3K:=[wl 4 1,yf 5 2 2,wl 6 5,Y2 7 K4 4 6,wm 3 7]
def a2n:Z9:=(QR f2K (QR f3K .ret))
theorem f4K:ZG prog Rz=some (8,a2n,[.tmp 3]):=by kernel_rfl
@[simp]def f5K:=[wm 4 0,wn 5 4,wc 6 .sub 5 1,wk 2 0,wm 3 6]
@[simp]def f6K:=[wm 7 2,wm 8 3,wt 9 .lss 7 8]
@[simp]def f7K:VT:=
 ym 14 0<|ym 15 2<|ym 16 0<|ym 17 3<|ym 18 0<|ym 19 3<|yi 20 8 18 19<|Ys 21 20 8<|ym 22 0<|ym 23 2<|yi 24 8 22 23<|Ys 25 24 8<|yi 26 8 14 15<|V (wo 26 21 8)<|yi 27 8 16 17<|V (wo 27 25 8)<|.done
@[simp]def f8K:=[wm 10 2,wc 11 .add 10 1,wm 12 3,wc 13 .sub 12 1,wm 2 11,wm 3 13]
def LU:Z9:=
 (Q (QR f6K (CX 9 0)) (Q (.block 1 (.any f7K)) (R f8K)))
def a3n:Z9:=(QR f5K (.block 0 (.loop LU)))
theorem f6f:ZG prog KX=some (28,a3n,[]):=by kernel_rfl
@[simp]def f9K:=[wk 4 0]
@[simp]def f0L:=[wm 6 0,wn 7 6,wk 8 0]
@[simp]def f1L:=[wt 9 .lss 8 7]
@[simp]def f2L:=[wm 10 8,wm 5 10]
@[simp]def f3L:=[wm 11 1,wm 12 0,wm 13 5,wi 14 1 12 13,wl 15 14,wt 16 .eql 11 15]
@[simp]def f4L:=[wm 17 5,wm 4 17]
@[simp]def f5L:=[wc 18 .add 8 1,wm 8 18]
def DK:Z9:=
 (QR f1L (Q (CX 9 0) (Q (.block 1 (QR f2L (QR f3L (CR 16 f4L)))) (R f5L))))
@[simp]def f6L:=[wk 4 (-1)]
def IX:Z9:=(QR f9K (Q (QR f0L (.block 0 (.loop DK))) (QR f6L .ret)))
theorem f7L:ZG prog Ga=some (19,IX,[.tmp 4]):=by kernel_rfl
end Go.Rt
end

section
namespace Go.Vm
theorem c0U{P:Program}{d:Nat}{f:FuncId}{pre post:List Z3}{ops:List Operand}{y:Option Operand}{s:St}{K K':St->AV->Prop}(hK:∀s x,K s x->K' s x)
 (h:KQ P d f pre ops post y s K):KQ P d f pre ops post y s K':=by
 unfold KQ at*;obtain⟨s0,h0,fr,H,R,s1,a,b,as1,d,c,k⟩:=h;exact⟨s0,h0,fr,H,R,s1,a,b,as1,d,c,fun r K e=>hK _ _ (k r K e)⟩
theorem c1U{P:Program}{l:Nat}{ops:List Operand}{s:St}{K K':St->AV->Prop}(hK:∀s x,K s x->K' s x)(h:c8H P l ops s K):c8H P l ops s K':=by
 obtain⟨s1,g,Z,b,Z',xs,h1,h2,h3,h4,h5⟩:=h;exact⟨s1,g,Z,b,Z',xs,h1,h2,h3,h4,hK _ _ h5⟩
theorem c2U{P:Program}{d:Nat}{s:St}{K K':St->AV->Prop}(hK:∀s x,K s x->K' s x)(r:V7):ZQ P d s K r->ZQ P d s K' r:=by
 unfold ZQ
 repeat' split
 all_goals intro h
 all_goals first
  |exact hK _ _ h
  |exact h.elim
  |exact⟨h.1,hK _ _ h.2⟩
  |exact⟨h.1,h.2.1,hK _ _ h.2.2⟩
  |exact⟨h.1,h.2.1,h.2.2.1,hK _ _ h.2.2.2⟩
  |exact⟨h.1,h.2.1,h.2.2.1,h.2.2.2.1,hK _ _ h.2.2.2.2⟩
  |exact⟨h.1,h.2.1,h.2.2.1,h.2.2.2.1,h.2.2.2.2.1,hK _ _ h.2.2.2.2.2⟩
  |exact⟨h.1,h.2.1,h.2.2.1,h.2.2.2.1,h.2.2.2.2.1,h.2.2.2.2.2.1,hK _ _ h.2.2.2.2.2.2⟩
  |exact⟨h.1,h.2.1,h.2.2.1,h.2.2.2.1,h.2.2.2.2.1,h.2.2.2.2.2.1,h.2.2.2.2.2.2.1,hK _ _ h.2.2.2.2.2.2.2⟩
  |exact⟨h.1,h.2.1,h.2.2.1,h.2.2.2.1,h.2.2.2.2.1,h.2.2.2.2.2.1,h.2.2.2.2.2.2.1,h.2.2.2.2.2.2.2.1,hK _ _ h.2.2.2.2.2.2.2.2⟩
  |exact fun b hb=>hK _ _ (h b hb)
  |exact fun c hc=>hK _ _ (h c hc)
  |exact⟨h.1,h.2.1,fun n=>hK _ _ (h.2.2 n)⟩
  |exact⟨h.1,fun L a b c=>hK _ _ (h.2 L a b c)⟩
  |exact⟨fun e=>hK _ _ (h.1 e),fun k c a b e=>hK _ _ (h.2 k c a b e)⟩
  |exact c0U hK h
  |exact⟨h.1,c0U hK h.2⟩
  |exact⟨h.1,h.2.1,c1U hK h.2.2⟩
  |exact⟨h.1,h.2.1,h.2.2.1,c0U hK h.2.2.2⟩
  |exact h
theorem c3U{P:Program}:∀{l:List Yd} {s:St} {K K':St->Prop},(∀s,K s->K' s)->Ui P l s K->Ui P l s K'
 | [],s,K,K',hK,h=>hK _ h
 |o::r,s,K,K',hK,h=>d8n (fun _ h=>c3U hK h) (fun _ _ _ _ hK _=>c2U hK _) h
theorem c4U{P:Program}:∀{t:VT} {s:St} {K K':St->Prop},(∀s,K s->K' s)->Tk P t s K->Tk P t s K'
 | .done,s,K,K',hK,h=>hK _ h
 | .op o t,s,K,K',hK,h=>d8n (fun _ h=>c4U hK h) (fun _ _ _ _ hK _=>c2U hK _) h
 | .alt a b,s,K,K',hK,h=>⟨c4U hK h.1,c4U hK h.2⟩
theorem CB{P:Program}(c:Z9):∀{s:St} {O O':Yr},(∀s,O.n s->O'.n s)->(∀i s,O.x i s->O'.x i s)->(∀s,O.r s->O'.r s)->(∀i s,O.g i s->O'.g i s)->X7 P c s O->X7 P c s O':=by
 induction c with
 |skip=>exact fun hn hx hr hg h=>hn _ h
 |Dl ops=>exact fun hn hx hr hg h=>c3U hn h
 |any t=>exact fun hn hx hr hg h=>c4U hn h
 |seq a b CZ ihb=>
  intro s O O' hn hx hr hg h;exact CZ (O:={O with n:=fun s'=>X7 P b s' O}) (O':={O' with n:=fun s'=>X7 P b s' O'}) (fun _ h=>ihb hn hx hr hg h) hx hr hg h
 |cond x t e iht ihe=>
  intro s O O' hn hx hr hg h;simp only[X7]at h⊢;split at h
  ·exact⟨fun hb=>iht hn hx hr hg (h.1 hb),fun hb=>ihe hn hx hr hg (h.2 hb)⟩
  ·exact h.elim
 |block id c ih=>
  intro s O O' hn hx hr hg h;refine ih (O:={O with x:=fun j s'=>if j=id then O.n s' else O.x j s'}) (O':={O' with x:=fun j s'=>if j=id then O'.n s' else O'.x j s'}) hn (fun i s h=>?_) hr hg h;simp only at h⊢;split
  ·rw[if_pos (by assumption)]at h;exact hn _ h
  ·rw[if_neg (by assumption)]at h;exact hx _ _ h
 |loop c ih=>
  intro s O O' hn hx hr hg h;obtain⟨I,hi,h⟩:=h;exact⟨I,hi,fun k s' hs=>ih (O:={O with n:=fun s2=>∃m s3,m<k/\Le s2 s3/\I m s3}) (O':={O' with n:=fun s2=>∃m s3,m<k/\Le s2 s3/\I m s3}) (fun _ h=>h) hx hr hg (h k s' hs)⟩
 |exit id=>exact fun hn hx hr hg h=>hx _ _ h
 |ret=>exact fun hn hx hr hg h=>hr _ h
 |goto l=>exact fun hn hx hr hg h=>hg _ _ h
 |scope c ih=>
  intro s O O' hn hx hr hg h;exact ih (O:={O with g:=fun _ _=>False}) (O':={O' with g:=fun _ _=>False}) hn hx hr (fun _ _ h=>h) h
 |WC c l r ihc ihr=>
  intro s O O' hn hx hr hg h
  exact ihc (O:={O with g:=fun l' s'=>l'=l/\X7 P r s' {O with g:=fun _ _=>False}}) (O':={O' with g:=fun l' s'=>l'=l/\X7 P r s' {O' with g:=fun _ _=>False}}) hn hx hr
   (fun _ _ h=>⟨h.1,ihr (O:={O with g:=fun _ _=>False}) (O':={O' with g:=fun _ _=>False}) hn hx hr (fun _ _ h=>h) h.2⟩) h
 |QB g ps x y ihx ihy=>exact fun hn hx hr hg h=>e1y ihx ihy hn hx hr h
class Tg {α:Type} (x:α):Type where
 mk::
instance tg {α:Type} (x:α):Tg x:=⟨⟩
def MP(P:Program)(d:Nat)(f:FuncId)(pre:List Z3)(ops:List Operand)(post:List Z3)(y:Option Operand)(s:St)(K:St->AV->Prop)[Tg K]:Prop:=KQ P d f pre ops post y s K
def F3(P:Program)(g:Operand)(ps:List Nat)(x y:Z9)(s:St)(O:Yr)[Tg x][Tg y][Tg O]:Prop:=MI P (X7 P x) (X7 P y) g ps s O
def a7R(P:Program)(l:Nat)(ops:List Operand)(s:St)(K:St->AV->Prop)[Tg K]:Prop:=c8H P l ops s K
def HY(P:Program)(c:Z9)(s:St)(O:Yr)[Tg c][Tg O]:Prop:=KP (X7 P c) s O
def oE(x:AV)(K:Bool->Prop)[Tg K]:Prop:=match x with| .iv (.v (.bool b))=>K b| _=>False
def onG(x:AV)(K:Bool->Prop)[Tg K](U:Prop):Prop:=match x with| .iv (.v (.bool b))=>K b| .un=>U| _=>False
def Cz(x:AV)(A B:Prop)[Tg A][Tg B]:Prop:=match x with| .iv (.v (.bool b))=>(b=true->A)/\(b=false->B)| _=>False
def MH(x:AV)(b:Bool)(A B U:Prop)[Tg A][Tg B][Tg U]:Prop:=match x with| .iv (.v (.bool c))=>(c=b->A)/\(c= !b->B)| .un=>U| _=>False
def NK(s:St)(K:St->Prop)[Tg K]:Prop:=K s
def oD(x:AV)(K:Value->Prop)[Tg K]:Prop:=match x with| .iv (.v u)=>K u| _=>False
def HR(x:AV)(K:Int->Prop)[Tg K]:Prop:=match x with| .iv (.v (.int _ m))=>K m| _=>False
def mr(x:AV)(K:ByteArray->Prop)[Tg K]:Prop:=match x with| .iv (.v (.string t))=>K t| _=>False
def Yj{α:Type}(x:Option α)(K:α->Prop)[Tg K]:Prop:=match x with|some y=>K y|none=>False
def Dp(x:AV)(K:List AV->Prop)[Tg K]:Prop:=match x with| .agg cs=>K cs| _=>False
def a0S(x:AV)(K:List AV->Prop)[Tg K]:Prop:=match x with| .Zp cs=>K cs| _=>False
def F2(x:Option Ob)(K:List AV->Prop)[Tg K]:Prop:=match x with|some (.box cs)=>K cs| _=>False
def F1(x:Option Ob)(K:Nat->List (List IV)->Prop)[Tg K]:Prop:=match x with|some (.list sz xs)=>K sz xs| _=>False
def NJ(x:Option Ob)(K:Nat->List (List IV)->Prop)(K2:Nat->List (List (List IV))->Option Nat->Prop)[Tg K][Tg K2]:Prop:=match x with|some (.list sz xs)=>K sz xs|some (.ZI sz xs hole)=>K2 sz xs hole| _=>False
def a3S(x:AV)(K:Nat->Nat->Nat->Nat->Prop)[Tg K]:Prop:=match x with| .sl a b c d=>K a b c d| _=>False
def Cy(x:Option Ob)(K:Sk->(List Value->Option (List IV))->Prop)[Tg K]:Prop:=match x with|some (.map sk g)=>K sk g| _=>False
def a5S(x:Option Ob)(K:Sk->(List Value->Option (List IV))->Int->List Value->Prop)[Tg K]:Prop:=match x with|some (.WE sk g n k)=>K sk g n k| _=>False
def Dn(x:Option Ob)(K:Sk->(List Value->Option (List IV))->List (List Value)->Option (List Value)->Prop)[Tg K]:Prop:=match x with|some (.iter sk g l k)=>K sk g l k| _=>False
def Dm(x:AV)(K:Nat->Prop)[Tg K]:Prop:=match x with| .mpr id=>K id| _=>False
section
variable{P:Program}{d id off:Nat}{s:St}{K:St->AV->Prop}{K1:St->Prop}{x y:Operand}
@[simp]theorem onB_b{b:Bool}{K:Bool->Prop}:oE (.iv (.v (.bool b))) K↔K b:=⟨id,id⟩
@[simp]theorem onG_b{b:Bool}{K:Bool->Prop}{U:Prop}:onG (.iv (.v (.bool b))) K U↔K b:=⟨id,id⟩
@[simp]theorem a8S{K:Bool->Prop}{U:Prop}:onG .un K U↔U:=⟨id,id⟩
@[simp]theorem onD_t{A B:Prop}:Cz (.iv (.v (.bool true))) A B↔A:=by simp[Cz]
@[simp]theorem onD_f{A B:Prop}:Cz (.iv (.v (.bool false))) A B↔B:=by simp[Cz]
@[simp low]theorem onD_b{b:Bool}{A B:Prop}:Cz (.iv (.v (.bool b))) A B↔(b=true->A)/\(b=false->B):=⟨fun h=>h,fun h=>h⟩
@[simp]theorem a9S{A B U:Prop}:MH (.iv (.v (.bool true))) true A B U↔A:=by simp[MH]
@[simp]theorem a0T{A B U:Prop}:MH (.iv (.v (.bool true))) false A B U↔B:=by simp[MH]
@[simp]theorem a1T{A B U:Prop}:MH (.iv (.v (.bool false))) true A B U↔B:=by simp[MH]
@[simp]theorem a2T{A B U:Prop}:MH (.iv (.v (.bool false))) false A B U↔A:=by simp[MH]
@[simp]theorem a3T{b:Bool}{A B U:Prop}:MH .un b A B U↔U:=⟨fun h=>h,fun h=>h⟩
@[simp low]theorem onH_t{c:Bool}{A B U:Prop}:MH (.iv (.v (.bool c))) true A B U↔(c=true->A)/\(c=false->B):=⟨fun h=>h,fun h=>h⟩
@[simp low]theorem onH_f{c:Bool}{A B U:Prop}:MH (.iv (.v (.bool c))) false A B U↔(c=false->A)/\(c=true->B):=⟨fun h=>h,fun h=>h⟩
@[simp]theorem g2b{fr:List (Nat×AV)}{hp:Hp}{K:St->Prop}:NK ⟨fr,hp⟩ K↔K ⟨fr,hp⟩:=⟨fun h=>h,fun h=>h⟩
@[simp]theorem onV_v{u:Value}{K:Value->Prop}:oD (.iv (.v u)) K↔K u:=⟨id,id⟩
@[simp]theorem onI_i{k:IntKind}{m:Int}{K:Int->Prop}:HR (.iv (.v (.int k m))) K↔K m:=⟨id,id⟩
@[simp]theorem onT_t{t:ByteArray}{K:ByteArray->Prop}:mr (.iv (.v (.string t))) K↔K t:=⟨id,id⟩
@[simp]theorem a4T{α:Type}{a:α}{K:α->Prop}:Yj (some a) K↔K a:=⟨id,id⟩
@[simp]theorem onS_n{α:Type}{K:α->Prop}:Yj none K↔False:=⟨id,id⟩
@[simp]theorem a5T{cs:List AV}{K:List AV->Prop}:Dp (.agg cs) K↔K cs:=⟨id,id⟩
@[simp]theorem a6T{cs:List AV}{K:List AV->Prop}:a0S (.Zp cs) K↔K cs:=⟨id,id⟩
@[simp]theorem a7T{cs:List AV}{K:List AV->Prop}:F2 (some (.box cs)) K↔K cs:=⟨id,id⟩
@[simp]theorem a8T{sz:Nat}{xs:List (List IV)}{K:Nat->List (List IV)->Prop}:F1 (some (.list sz xs)) K↔K sz xs:=⟨id,id⟩
@[simp]theorem a9T{sk g}{K:Sk->(List Value->Option (List IV))->Prop}:Cy (some (.map sk g)) K↔K sk g:=⟨id,id⟩
@[simp]theorem a0U{sk g n k}{K:Sk->(List Value->Option (List IV))->Int->List Value->Prop}:a5S (some (.WE sk g n k)) K↔K sk g n k:=⟨id,id⟩
@[simp]theorem a1U{sk g l k}{K:Sk->(List Value->Option (List IV))->List (List Value)->Option (List Value)->Prop}:Dn (some (.iter sk g l k)) K↔K sk g l k:=⟨id,id⟩
@[simp]theorem a2U{K:Nat->Prop}:Dm (.mpr id) K↔K id:=⟨fun h=>h,fun h=>h⟩
theorem Td{x:AV}{K:Bool->Prop}:oE x K↔∃b,x= .iv (.v (.bool b))/\K b:=by
 unfold oE;split<;>simp_all
theorem Tc{x:AV}{K:Value->Prop}:oD x K↔∃b,x= .iv (.v b)/\K b:=by
 unfold oD;split<;>simp_all
theorem Ta{x:AV}{K:ByteArray->Prop}:mr x K↔∃b,x= .iv (.v (.string b))/\K b:=by
 unfold mr;split<;>simp_all
theorem S9{x:AV}{K:List AV->Prop}:Dp x K↔∃b,x= .agg b/\K b:=by
 unfold Dp;split<;>simp_all
theorem S8{x:AV}{K:List AV->Prop}:a0S x K↔∃b,x= .Zp b/\K b:=by
 unfold a0S;split<;>simp_all
theorem Tr{x:AV}{K:Nat->Prop}:Dm x K↔∃b,x= .mpr b/\K b:=by
 unfold Dm;split<;>simp_all
theorem T5{x:AV}{K:Int->Prop}:HR x K↔∃k b,x= .iv (.v (.int k b))/\K b:=by
 unfold HR;split
 ·exact⟨fun h=>⟨_,_,rfl,h⟩,fun⟨_,_,e,h⟩=>by cases e;exact h⟩
 ·rename_i hn;exact⟨fun h=>h.elim,fun⟨_,_,e,h⟩=>(hn _ _ e).elim⟩
theorem VJ{α:Type}{x:Option α}{K:α->Prop}:Yj x K↔∃b,x=some b/\K b:=by
 unfold Yj;split<;>simp_all
theorem TS{x:Option Ob}{K:List AV->Prop}:F2 x K↔∃b,x=some (.box b)/\K b:=by
 unfold F2;split<;>simp_all
@[simp]theorem a2V{sz:Nat}{xs:List (List IV)}{K:Nat->List (List IV)->Prop}{K2:Nat->List (List (List IV))->Option Nat->Prop}:NJ (some (.list sz xs)) K K2↔K sz xs:=⟨id,id⟩
@[simp]theorem a3V{sz:Nat}{xs:List (List (List IV))}{hole:Option Nat}{K:Nat->List (List IV)->Prop}{K2:Nat->List (List (List IV))->Option Nat->Prop}:NJ (some (.ZI sz xs hole)) K K2↔K2 sz xs hole:=⟨id,id⟩
@[simp]theorem a4V{a b c d:Nat}{K:Nat->Nat->Nat->Nat->Prop}:a3S (.sl a b c d) K↔K a b c d:=⟨id,id⟩
theorem TR{x:Option Ob}{K:Nat->List (List IV)->Prop}:F1 x K↔∃sz b,x=some (.list sz b)/\K sz b:=by
 unfold F1;split
 ·exact⟨fun h=>⟨_,_,rfl,h⟩,fun⟨_,_,e,h⟩=>by cases e;exact h⟩
 ·rename_i hn;exact⟨fun h=>h.elim,fun⟨_,_,e,h⟩=>(hn _ _ e).elim⟩
theorem Tq{x:Option Ob}{K:Sk->(List Value->Option (List IV))->Prop}:Cy x K↔∃sk g,x=some (.map sk g)/\K sk g:=by
 unfold Cy;split
 ·exact⟨fun h=>⟨_,_,rfl,h⟩,fun⟨_,_,e,h⟩=>by cases e;exact h⟩
 ·rename_i hn;exact⟨fun h=>h.elim,fun⟨_,_,e,h⟩=>(hn _ _ e).elim⟩
theorem S7{x:Option Ob}{K:Sk->(List Value->Option (List IV))->Int->List Value->Prop}:a5S x K↔∃sk g n k,x=some (.WE sk g n k)/\K sk g n k:=by
 unfold a5S;split
 ·exact⟨fun h=>⟨_,_,_,_,rfl,h⟩,fun⟨_,_,_,_,e,h⟩=>by cases e;exact h⟩
 ·rename_i hn;exact⟨fun h=>h.elim,fun⟨_,_,_,_,e,h⟩=>(hn _ _ _ _ e).elim⟩
theorem S6{x:Option Ob}{K:Sk->(List Value->Option (List IV))->List (List Value)->Option (List Value)->Prop}:Dn x K↔∃sk g l k,x=some (.iter sk g l k)/\K sk g l k:=by
 unfold Dn;split
 ·exact⟨fun h=>⟨_,_,_,_,rfl,h⟩,fun⟨_,_,_,_,e,h⟩=>by cases e;exact h⟩
 ·rename_i hn;exact⟨fun h=>h.elim,fun⟨_,_,_,_,e,h⟩=>(hn _ _ _ _ e).elim⟩
@[congr]theorem a9V{x x':AV}{K:Bool->Prop}(h:x=x'):oE x K=oE x' K:=by rw[h]
@[congr]theorem a0W{x x':AV}{K:Value->Prop}(h:x=x'):oD x K=oD x' K:=by rw[h]
@[congr]theorem a1W{x x':AV}{K:Int->Prop}(h:x=x'):HR x K=HR x' K:=by rw[h]
@[congr]theorem a2W{x x':AV}{K:ByteArray->Prop}(h:x=x'):mr x K=mr x' K:=by rw[h]
@[congr]theorem a3W{x x':AV}{K:List AV->Prop}(h:x=x'):Dp x K=Dp x' K:=by rw[h]
@[congr]theorem a4W{x x':AV}{K:List AV->Prop}(h:x=x'):a0S x K=a0S x' K:=by rw[h]
@[congr]theorem a5W{x x':Option Ob}{K:List AV->Prop}(h:x=x'):F2 x K=F2 x' K:=by rw[h]
@[congr]theorem a6W{x x':Option Ob}{K:Nat->List (List IV)->Prop}(h:x=x'):F1 x K=F1 x' K:=by rw[h]
@[congr]theorem a7W{x x':Option Ob}{K:Nat->List (List IV)->Prop}{K2:Nat->List (List (List IV))->Option Nat->Prop}(h:x=x'):NJ x K K2=NJ x' K K2:=by rw[h]
@[congr]theorem a8W{x x':AV}{K:Nat->Nat->Nat->Nat->Prop}(h:x=x'):a3S x K=a3S x' K:=by rw[h]
@[congr]theorem a9W{x x':Option Ob}{K:Sk->(List Value->Option (List IV))->Prop}(h:x=x'):Cy x K=Cy x' K:=by rw[h]
@[congr]theorem a0X{x x':Option Ob}{K:Sk->(List Value->Option (List IV))->Int->List Value->Prop}(h:x=x'):a5S x K=a5S x' K:=by rw[h]
@[congr]theorem a1X{x x':Option Ob}{K:Sk->(List Value->Option (List IV))->List (List Value)->Option (List Value)->Prop}(h:x=x'):Dn x K=Dn x' K:=by rw[h]
@[congr]theorem a2X{x x':AV}{K:Nat->Prop}(h:x=x'):Dm x K=Dm x' K:=by rw[h]
@[congr]theorem a3X{x x':AV}{A B:Prop}(h:x=x'):Cz x A B=Cz x' A B:=by rw[h]
@[congr]theorem a4X{x x':AV}{b:Bool}{A B U:Prop}(h:x=x'):MH x b A B U=MH x' b A B U:=by rw[h]
@[congr]theorem a5X{s s':St}{K:St->Prop}(h:s=s'):NK s K=NK s' K:=by rw[h]
@[congr]theorem a6X{x x':AV}{K:Bool->Prop}{U:Prop}(h:x=x'):onG x K U=onG x' K U:=by rw[h]
@[congr]theorem a7X{α:Type}{x x':Option α}{K:α->Prop}(h:x=x'):Yj x K=Yj x' K:=by rw[h]
@[congr]theorem a8X{P:Program}{l l':List Yd}{s s':St}{K:St->Prop}(hl:l=l')(h:s=s'):Ui P l s K=Ui P l' s' K:=by rw[h,hl]
@[congr]theorem a9X{P:Program}{l l':VT}{s s':St}{K:St->Prop}(hl:l=l')(h:s=s'):Tk P l s K=Tk P l' s' K:=by rw[h,hl]
@[congr]theorem a0Y{P:Program}{c c':Z9}{s s':St}{O:Yr}(hc:c=c')(h:s=s'):X7 P c s O=X7 P c' s' O:=by rw[h,hc]
@[congr]theorem a1Y{P:Program}{d:Nat}{f:FuncId}{pre post:List Z3}{ops:List Operand}{y:Option Operand}{s s':St}{K:St->AV->Prop}(h:s=s'):
 MP P d f pre ops post y s K=MP P d f pre ops post y s' K:=by rw[h]
@[congr]theorem a2Y{P:Program}{g:Operand}{ps:List Nat}{x y:Z9}{s s':St}{O:Yr}(h:s=s'):F3 P g ps x y s O=F3 P g ps x y s' O:=by rw[h]
@[congr]theorem a3Y{P:Program}{l:Nat}{ops:List Operand}{s s':St}{K:St->AV->Prop}(h:s=s'):a7R P l ops s K=a7R P l ops s' K:=by rw[h]
@[congr]theorem a4Y{P:Program}{c:Z9}{s s':St}{O:Yr}(h:s=s'):HY P c s O=HY P c s' O:=by rw[h]
@[simp]theorem a5Y{s:St}:Ui P [] s K1↔K1 s:=⟨fun h=>h,fun h=>h⟩
@[simp]theorem a6Y{o:Yd}{r:List Yd}:Ui P (o::r) s K1↔VA P o s fun s'=>Ui P r s' K1:=⟨fun h=>h,fun h=>h⟩
@[simp]theorem a7Y:Tk P .done s K1↔K1 s:=⟨fun h=>h,fun h=>h⟩
@[simp]theorem a8Y{o:Yd}{t:VT}:Tk P (.op o t) s K1↔VA P o s fun s'=>Tk P t s' K1:=⟨fun h=>h,fun h=>h⟩
@[simp]theorem a9Y{a b:VT}:Tk P (.alt a b) s K1↔Tk P a s K1/\Tk P b s K1:=⟨fun h=>h,fun h=>h⟩
@[simp]theorem a0Z{d:Option Nat}{r:V7}:VA P ⟨d,none,r⟩ s K1↔NK s fun s=>ZQ P (d.getD 999) s (fun s' x=>K1 (s'.put d x)) r:=⟨fun h=>h,fun h=>h⟩
@[simp]theorem a1Z{d:Option Nat}{t:Nat}{b:Bool}{r:V7}:VA P ⟨d,some (t,b),r⟩ s K1↔
 NK s fun s=>MH (s.get t) b (ZQ P (d.getD 999) (s.lit t b) (fun s' x=>K1 (s'.put d x)) r) (K1 ((s.lit t !b).put d .un)) (K1 (s.put d .un)):=by
 simp only[VA,NK,MH]<;>split<;>simp_all
variable{O:Yr}
@[simp]theorem a2Z:X7 P .skip s O↔O.n s:=⟨fun h=>h,fun h=>h⟩
@[simp]theorem a3Z{l:List Yd}:X7 P (.Dl l) s O↔Ui P l s O.n:=⟨fun h=>h,fun h=>h⟩
@[simp]theorem a4Z{t:VT}:X7 P (.any t) s O↔Tk P t s O.n:=⟨fun h=>h,fun h=>h⟩
@[simp]theorem a5Z{a b:Z9}:X7 P (.seq a b) s O↔X7 P a s ⟨fun s'=>X7 P b s' O,O.x,O.r,O.g⟩:=⟨fun h=>h,fun h=>h⟩
@[simp]theorem a6Z{t e:Z9}:X7 P (.cond x t e) s O↔NK s fun s=>Cz (s.ev x) (X7 P t s O) (X7 P e s O):=by
 simp only[X7,NK,Cz]<;>split<;>simp_all
@[simp]theorem a7Z{c:Z9}:X7 P (.block id c) s O↔X7 P c s ⟨O.n,fun j s'=>if j=id then O.n s' else O.x j s',O.r,O.g⟩:=⟨fun h=>h,fun h=>h⟩
@[simp]theorem g3b{g:Operand}{ps:List Nat}{x y:Z9}:X7 P (.QB g ps x y) s O↔F3 P g ps x y s O:=⟨fun h=>h,fun h=>h⟩
@[simp]theorem a8Z{c:Z9}:X7 P (.loop c) s O↔HY P c s O:=⟨fun h=>h,fun h=>h⟩
@[simp]theorem a9Z:X7 P (.exit id) s O↔O.x id s:=⟨fun h=>h,fun h=>h⟩
@[simp]theorem b0a:X7 P .ret s O↔O.r s:=⟨fun h=>h,fun h=>h⟩
@[simp]theorem b1a{l:Nat}:X7 P (.goto l) s O↔O.g l s:=⟨fun h=>h,fun h=>h⟩
@[simp]theorem b2a{c:Z9}:X7 P (.scope c) s O↔X7 P c s ⟨O.n,O.x,O.r,fun _ _=>False⟩:=⟨fun h=>h,fun h=>h⟩
@[simp]theorem b3a{c r:Z9}{l:Nat}:X7 P (.WC c l r) s O↔X7 P c s ⟨O.n,O.x,O.r,fun l' s'=>l'=l/\X7 P r s' ⟨O.n,O.x,O.r,fun _ _=>False⟩⟩:=⟨fun h=>h,fun h=>h⟩
@[simp]theorem b4a:ZQ P d s K (.QH x)↔K s (s.ev x):=⟨fun h=>h,fun h=>h⟩
@[simp]theorem b5a{sz:Nat}:ZQ P d s K (.GY sz)↔K ((s.drop d).add d (.list sz [])) (.sl d sz 0 0):=⟨fun h=>h,fun h=>h⟩
@[simp]theorem b6a{c:Operand}:ZQ P d s K (.pick c x y)↔oE (s.ev c) fun t=>K s (if t then s.ev x else s.ev y):=by
 first
 |exact⟨fun h=>h,fun h=>h⟩
 |(
  simp only[ZQ,Td,Tc,Ta,S9,S8,Tr,T5,VJ,TS,TR,Tq,S7,S6];repeat' split
  all_goals first|(simp_all;done)|grind)
@[simp]theorem b7a{z:List AV}:ZQ P d s K (.alloc z)↔K ((s.drop d).add d (.box z)) (.ptr d 0):=⟨fun h=>h,fun h=>h⟩
@[simp]theorem b8a:ZQ P d s K (.box x)↔Yj (((s.drop d).ev x).cellsOf) fun cs=>K ((s.drop d).add d (.box cs)) (.ptr d 0):=by
 first
 |exact⟨fun h=>h,fun h=>h⟩
 |(
  simp only[ZQ,Td,Tc,Ta,S9,S8,Tr,T5,VJ,TS,TR,Tq,S7,S6];repeat' split
  all_goals first|(simp_all;done)|grind)
@[simp]theorem b9a{z:List AV}{parts:List (Nat×Nat×Operand)}:ZQ P d s K (.build z parts)↔Yj (DB s z parts) fun cs=>K s (.agg cs):=by
 first
 |exact⟨fun h=>h,fun h=>h⟩
 |(
  simp only[ZQ,Td,Tc,Ta,S9,S8,Tr,T5,VJ,TS,TR,Tq,S7,S6];repeat' split
  all_goals first|(simp_all;done)|grind)
@[simp]theorem b0b{sz len:Nat}{parts:List (Nat×Operand)}:ZQ P d s K (.lit sz len parts)↔
 Yj (Ru ((s.YX (parts.map fun p=>s.ev p.2)).drop d) sz parts) fun xs=>K (((s.YX (parts.map fun p=>s.ev p.2)).drop d).add d (.list sz xs)) (.sl d sz 0 len):=by
 first
 |exact⟨fun h=>h,fun h=>h⟩
 |(
  simp only[ZQ,Td,Tc,Ta,S9,S8,Tr,T5,VJ,TS,TR,Tq,S7,S6];repeat' split
  all_goals first|(simp_all;done)|grind)
def ldN(s:St)(d:Nat)(x:Operand)(K:St->AV->Prop)[Tg K]:AV->Prop
 | .ptr id off=>F2 (look s.hp id) fun cs=>Yj cs[off]? (K s)
 | .ep id _ i off=>NJ (look s.hp id) (fun _ xs=>Yj (at2 xs i off) fun y=>K s (.iv y)) (fun YH xs hole=>hole=none/\off=0/\id≠d/\(s.drop d).ev x= .ep id 1 i 0/\look (s.drop d).hp id=some (.ZI YH xs none)/\Yj xs[i]? fun ys=>K (((s.drop d).add id (.ZI YH xs (some i))).add d (.YN id YH ys)) (.sl d YH 0 ys.length))
 | .iv (.pt cs)=>Yj cs[0]? fun y=>K s (.iv y)
 | _=>False
@[simp]theorem b1b{K:St->AV->Prop}:ldN s d x K (.ptr id off)↔F2 (look s.hp id) fun cs=>Yj cs[off]? (K s):=⟨fun h=>h,fun h=>h⟩
@[simp]theorem b2b{K:St->AV->Prop}{z i:Nat}:ldN s d x K (.ep id z i off)↔NJ (look s.hp id) (fun _ xs=>Yj (at2 xs i off) fun y=>K s (.iv y)) (fun YH xs hole=>hole=none/\off=0/\id≠d/\(s.drop d).ev x= .ep id 1 i 0/\look (s.drop d).hp id=some (.ZI YH xs none)/\Yj xs[i]? fun ys=>K (((s.drop d).add id (.ZI YH xs (some i))).add d (.YN id YH ys)) (.sl d YH 0 ys.length)):=⟨fun h=>h,fun h=>h⟩
@[simp]theorem b3b{K:St->AV->Prop}{cs:List IV}:ldN s d x K (.iv (.pt cs))↔Yj cs[0]? fun y=>K s (.iv y):=⟨fun h=>h,fun h=>h⟩
@[simp]theorem b4b:ZQ P d s K (.ld x none)↔ldN s d x K (s.ev x):=by
 simp only[ZQ];generalize s.ev x=ax
 cases ax with
 |ptr id off=>
  simp only[b1b,TS,VJ]
  repeat' split
  all_goals (simp_all;done)
 |ep id sz i off=>
  simp only[b2b]
  cases hl:look s.hp id with
  |none=>exact⟨fun h=>h,fun h=>h⟩
  |some o=>
   cases o with
   |list z xs=>simp only[a2V,VJ];split<;>simp_all
   |ZI z xs hole=>simp only[a3V,VJ];split<;>simp_all
   | _=>exact⟨fun h=>h,fun h=>h⟩
 |iv y=>
  cases y with
  |pt cs=>
   simp only[b3b,VJ];repeat' split
   all_goals (simp_all;done)
  | _=>exact⟨fun h=>h,fun h=>h⟩
 | _=>exact⟨fun h=>h,fun h=>h⟩
def ldS(H:Hp)(n:Nat)(x:AV)(K:AV->Prop)[Tg K]:Prop:=match x with
 | .ptr id off=>F2 (look H id) fun cs=>off+n<=cs.length/\K (.agg ((cs.drop off).take n))
 | .ep id _ i off=>F1 (look H id) fun _ xs=>Yj xs[i]? fun r=>off+n<=r.length/\K (.agg (((r.drop off).take n).map .iv))
 | .iv (.pt cs)=>n<=cs.length/\K (.agg ((cs.take n).map .iv))
 | _=>False
@[simp]theorem b5b{H:Hp}{n:Nat}{K:AV->Prop}:ldS H n (.ptr id off) K↔F2 (look H id) fun cs=>off+n<=cs.length/\K (.agg ((cs.drop off).take n)):=⟨fun h=>h,fun h=>h⟩
@[simp]theorem b6b{H:Hp}{n:Nat}{K:AV->Prop}{z i:Nat}:ldS H n (.ep id z i off) K↔F1 (look H id) fun _ xs=>Yj xs[i]? fun r=>off+n<=r.length/\K (.agg (((r.drop off).take n).map .iv)):=⟨fun h=>h,fun h=>h⟩
@[simp]theorem b7b{H:Hp}{n:Nat}{K:AV->Prop}{cs:List IV}:ldS H n (.iv (.pt cs)) K↔n<=cs.length/\K (.agg ((cs.take n).map .iv)):=⟨fun h=>h,fun h=>h⟩
@[simp]theorem b8b{n:Nat}:ZQ P d s K (.ld x (some n))↔ldS s.hp n (s.ev x) (K s):=by
 first
 |exact⟨fun h=>h,fun h=>h⟩
 |(
  simp only[ZQ,ldS,Td,Tc,Ta,S9,S8,Tr,T5,VJ,TS,TR,Tq,S7,S6];repeat' split
  all_goals first|(simp_all;done)|grind)
def stC(s:St)(x:Operand)(y:Operand)(n:Nat)(K:St->Prop)[Tg K]:AV->Prop
 | .ptr id off=>F2 (look s.hp id) fun cs=>Yj (s.ev y).cellsOf fun cy=>cy.length=n/\off+n<=cs.length/\cy.all AV.one=true/\K (s.add id (.box (YB cs off cy)))
 | .ep id _ i off=>NJ (look (s.YX [s.ev y]).hp id) (fun sz xs=>Yj (((s.YX [s.ev y]).ev y).cellsOf.bind fun cs=>Zg AV.iv? cs) fun cy=>Yj xs[i]? fun r=>
  (s.YX [s.ev y]).ev x= .ep id sz i off/\cy.length=n/\off+n<=r.length/\K ((s.YX [s.ev y]).add id (.list sz (xs.set i (YB r off cy))))) (fun YH xs hole=>a3S (s.ev y) fun d' Zz lo len=>Yj (look s.hp d') fun o=>Yj o.TQ fun e=>lo=0/\look s.hp id=some (.ZI YH xs hole)/\(n=1/\off=0)/\Zz=YH/\d'<1000/\d'≠id/\len=e.2.length/\(o.org?=none\/o.org?=some id)/\hole=some i/\K ((s.kill d').add id (.ZI YH (xs.set i e.2) none)))
 | _=>False
theorem Cx{α β:Type}(f:α->Option β):∀l:List α,l.mapM f=Zg f l
 | []=>rfl
 |x::r=>by
  rw[a0Q];simp only[Zg, <-Cx f r]
  cases f x with
  |none=>rfl
  |some y=>cases r.mapM f<;>rfl
@[simp]theorem b0c{n:Nat}{K:St->Prop}:stC s x y n K (.ptr id off)↔F2 (look s.hp id) fun cs=>Yj (s.ev y).cellsOf fun cy=>cy.length=n/\off+n<=cs.length/\cy.all AV.one=true/\K (s.add id (.box (YB cs off cy))):=⟨fun h=>h,fun h=>h⟩
@[simp]theorem b1c{n z i:Nat}{K:St->Prop}:stC s x y n K (.ep id z i off)↔NJ (look (s.YX [s.ev y]).hp id) (fun sz xs=>Yj (((s.YX [s.ev y]).ev y).cellsOf.bind fun cs=>Zg AV.iv? cs) fun cy=>Yj xs[i]? fun r=>
 (s.YX [s.ev y]).ev x= .ep id sz i off/\cy.length=n/\off+n<=r.length/\K ((s.YX [s.ev y]).add id (.list sz (xs.set i (YB r off cy))))) (fun YH xs hole=>a3S (s.ev y) fun d' Zz lo len=>Yj (look s.hp d') fun o=>Yj o.TQ fun e=>lo=0/\look s.hp id=some (.ZI YH xs hole)/\(n=1/\off=0)/\Zz=YH/\d'<1000/\d'≠id/\len=e.2.length/\(o.org?=none\/o.org?=some id)/\hole=some i/\K ((s.kill d').add id (.ZI YH (xs.set i e.2) none))):=⟨fun h=>h,fun h=>h⟩
@[simp]theorem b2c{n:Nat}:ZQ P d s K (.st x y n)↔stC s x y n (fun s'=>K s' .un) (s.ev x):=by
 simp only[ZQ];generalize hx:s.ev x=ax
 cases ax with
 |ptr id off=>
  simp only[b0c,TS,VJ]
  repeat' split
  all_goals first|(simp_all;done)|grind
 |ep id sz i off=>
  simp only[b1c,Cx]
  cases hl:look (s.YX [s.ev y]).hp id with
  |none=>exact⟨fun h=>h,fun h=>h⟩
  |some o=>
   cases o with
   |list z xs=>
    simp only[a2V,VJ];repeat' split
    all_goals first|(simp_all;done)|grind
   |ZI z xs hole=>
    simp only[a3V];clear hl hx;generalize s.ev y=ay
    cases ay with
    |sl d' Zz lo len=>
     simp only[a4V,VJ]
     cases lo with
     |zero=>
      cases h1:look s.hp d' with
      |none=>simp[h1]
      |some o=>
       cases h2:o.TQ with
       |none=>simp[h1,h2]
       |some e=>
        obtain⟨e1,e2⟩:=e;simp only[h1,h2,a3y,exists_eq_left',true_and]
     |succ lo=>exact⟨fun h=>h.elim,fun⟨_,_,_,_,h,_⟩=>by cases h⟩
    | _=>exact⟨fun h=>h,fun h=>h⟩
   | _=>exact⟨fun h=>h,fun h=>h⟩
 | _=>exact⟨fun h=>h,fun h=>h⟩
def Cw(x:AV)(K:AV->Prop)[Tg K]:Prop:=match x with
 | .ptr id off=>K (.ptr id off)
 | .ep id sz i off=>K (.ep id sz i off)
 | .iv (.pt cs)=>K (.iv (.pt cs))
 | _=>False
@[simp]theorem b3c{K:AV->Prop}:Cw (.ptr id off) K↔K (.ptr id off):=⟨fun h=>h,fun h=>h⟩
@[simp]theorem b4c{K:AV->Prop}{sz i:Nat}:Cw (.ep id sz i off) K↔K (.ep id sz i off):=⟨fun h=>h,fun h=>h⟩
@[simp]theorem b5c{K:AV->Prop}{cs:List IV}:Cw (.iv (.pt cs)) K↔K (.iv (.pt cs)):=⟨fun h=>h,fun h=>h⟩
@[simp]theorem b6c:ZQ P d s K (.oO x)↔Cw (s.ev x) (K s):=⟨fun h=>h,fun h=>h⟩
@[simp]theorem b7c{op:BinOp}:ZQ P d s K (.bin op x y)↔oD (s.ev x) fun u=>oD (s.ev y) fun v=>Yj (YT op u v) fun r=>K s (.iv (.v r)):=by
 first
 |exact⟨fun h=>h,fun h=>h⟩
 |(
  simp only[ZQ,Td,Tc,Ta,S9,S8,Tr,T5,VJ,TS,TR,Tq,S7,S6];repeat' split
  all_goals first|(simp_all;done)|grind)
@[simp]theorem b8c{neg:Bool}:ZQ P d s K (.beq neg x y)↔oE (s.ev x) fun u=>oE (s.ev y) fun v=>K s (.iv (.v (.bool (if neg then u != v else u==v)))):=by
 first
 |exact⟨fun h=>h,fun h=>h⟩
 |(
  simp only[ZQ,Td,Tc,Ta,S9,S8,Tr,T5,VJ,TS,TR,Tq,S7,S6];repeat' split
  all_goals first|(simp_all;done)|grind)
def MG:AV->AV->Option Bool
 | .iv (.v (.pointer none)), .iv (.v (.pointer none))=>some true
 | .iv (.v (.pointer none)), .ptr .. =>some false
 | .iv (.v (.pointer none)), .iv (.pt _)=>some false
 | .ptr .., .iv (.v (.pointer none))=>some false
 | .iv (.pt _), .iv (.v (.pointer none))=>some false
 | _,_=>none
@[simp]theorem b9c:MG (.iv (.v (.pointer none))) (.iv (.v (.pointer none)))=some true:=rfl
@[simp]theorem b0d:MG (.iv (.v (.pointer none))) (.ptr id off)=some false:=rfl
@[simp]theorem b1d{cs:List IV}:MG (.iv (.v (.pointer none))) (.iv (.pt cs))=some false:=rfl
@[simp]theorem b2d:MG (.ptr id off) (.iv (.v (.pointer none)))=some false:=rfl
@[simp]theorem b3d{cs:List IV}:MG (.iv (.pt cs)) (.iv (.v (.pointer none)))=some false:=rfl
@[simp]theorem b4d{neg:Bool}:ZQ P d s K (.peq neg x y)↔Yj (MG (s.ev x) (s.ev y)) fun b=>K s (.iv (.v (.bool (b != neg)))):=by
 first
 |exact⟨fun h=>h,fun h=>h⟩
 |(
  simp only[ZQ,MG,Td,Tc,Ta,S9,S8,Tr,T5,VJ,TS,TR,Tq,S7,S6];repeat' split
  all_goals first|(simp_all;done)|grind)
@[simp]theorem b5d{neg:Bool}{ks:List Kd}:ZQ P d s K (.eqs neg ks x y)↔Dp (s.ev x) fun cs=>Dp (s.ev y) fun ds=>Yj (TY ks cs ds) fun b=>K s (.iv (.v (.bool (if neg then !b else b)))):=by
 first
 |exact⟨fun h=>h,fun h=>h⟩
 |(
  simp only[ZQ,Td,Tc,Ta,S9,S8,Tr,T5,VJ,TS,TR,Tq,S7,S6];repeat' split
  all_goals first|(simp_all;done)|grind)
@[simp]theorem b6d{op:UnOp}:ZQ P d s K (.un op x)↔oD (s.ev x) fun v=>Yj (unV op v) fun r=>K s (.iv (.v r)):=by
 first
 |exact⟨fun h=>h,fun h=>h⟩
 |(
  simp only[ZQ,Td,Tc,Ta,S9,S8,Tr,T5,VJ,TS,TR,Tq,S7,S6];repeat' split
  all_goals first|(simp_all;done)|grind)
@[simp]theorem b7d{k:IntKind}:ZQ P d s K (.cvt k x)↔HR (s.ev x) fun m=>K s (.iv (.v (.int k (k.wrap m)))):=by
 first
 |exact⟨fun h=>h,fun h=>h⟩
 |(
  simp only[ZQ,Td,Tc,Ta,S9,S8,Tr,T5,VJ,TS,TR,Tq,S7,S6];repeat' split
  all_goals first|(simp_all;done)|grind)
def F0(s:St)(sz:Nat)(lo hi:Option Operand)(K:AV->Prop)[Tg K]:AV->Prop
 | .iv (.Z6 Zz xs)=>Yj (s.bound 0 lo) fun l=>Yj (s.bound xs.length hi) fun h=>Zz=sz/\0<=l/\l<=h/\h<=xs.length/\K (.iv (.Z6 sz ((xs.drop l.toNat).take (h-l).toNat)))
 | .sl id Zz o m=>Yj (s.bound 0 lo) fun l=>Yj (s.bound m hi) fun h=>Zz=sz/\0<=l/\l<=h/\h<=m/\K (.sl id sz (o+l.toNat) (h-l).toNat)
 | .nil Zz=>Yj (s.bound 0 lo) fun l=>Yj (s.bound 0 hi) fun h=>l=0/\h=0/\K (.nil Zz)
 | _=>False
section
variable{sz Zz o m:Nat}{lo hi:Option Operand}{K2:AV->Prop}{xs:List (List IV)}
@[simp]theorem b8d:F0 s sz lo hi K2 (.iv (.Z6 Zz xs))↔Yj (s.bound 0 lo) fun l=>Yj (s.bound xs.length hi) fun h=>Zz=sz/\0<=l/\l<=h/\h<=xs.length/\K2 (.iv (.Z6 sz ((xs.drop l.toNat).take (h-l).toNat))):=⟨fun h=>h,fun h=>h⟩
@[simp]theorem b9d:F0 s sz lo hi K2 (.sl id Zz o m)↔Yj (s.bound 0 lo) fun l=>Yj (s.bound m hi) fun h=>Zz=sz/\0<=l/\l<=h/\h<=m/\K2 (.sl id sz (o+l.toNat) (h-l).toNat):=⟨fun h=>h,fun h=>h⟩
@[simp]theorem b0e:F0 s sz lo hi K2 (.nil Zz)↔Yj (s.bound 0 lo) fun l=>Yj (s.bound 0 hi) fun h=>l=0/\h=0/\K2 (.nil Zz):=⟨fun h=>h,fun h=>h⟩
@[simp]theorem b1e:ZQ P d s K (.cut sz x lo hi)↔F0 s sz lo hi (K s) (s.ev x):=by
 first
 |exact⟨fun h=>h,fun h=>h⟩
 |(
  simp only[ZQ,F0,Td,Tc,Ta,S9,S8,Tr,T5,VJ,TS,TR,Tq,S7,S6];repeat' split
  all_goals first|(simp_all;done)|grind)
end
def faK(off:Nat)(x:AV)(K:AV->Prop)[Tg K]:Prop:=match x with
 | .ptr id o=>K (.ptr id (o+off))
 | .ep id sz i o=>K (.ep id sz i (o+off))
 | .iv (.pt cs)=>K (.iv (.pt (cs.drop off)))
 | _=>False
section
variable{K2:AV->Prop}{sz i o n:Nat}
@[simp]theorem b2e:faK off (.ptr id o) K2↔K2 (.ptr id (o+off)):=⟨fun h=>h,fun h=>h⟩
@[simp]theorem b3e:faK off (.ep id sz i o) K2↔K2 (.ep id sz i (o+off)):=⟨fun h=>h,fun h=>h⟩
@[simp]theorem b4e{cs:List IV}:faK off (.iv (.pt cs)) K2↔K2 (.iv (.pt (cs.drop off))):=⟨fun h=>h,fun h=>h⟩
@[simp]theorem b5e:ZQ P d s K (.fa off x)↔faK off (s.ev x) (K s):=⟨fun h=>h,fun h=>h⟩
@[simp]theorem b6e:ZQ P d s K (.Wq off none x)↔Dp (s.ev x) fun cs=>Yj cs[off]? (K s):=by
 simp only[ZQ,Td,Tc,Ta,S9,S8,Tr,T5,VJ,TS,TR,Tq,S7,S6];repeat' split
 all_goals first|(simp_all;done)|grind
@[simp]theorem b7e:ZQ P d s K (.Wq off (some n) x)↔Dp (s.ev x) fun cs=>off+n<=cs.length/\K s (.agg ((cs.drop off).take n)):=⟨fun h=>h,fun h=>h⟩
end
def iaK(sz:Nat)(m:Int)(K:AV->Prop)[Tg K]:AV->Prop
 | .iv (.Z6 Zz xs)=>Zz=sz/\0<=m/\Yj xs[m.toNat]? fun r=>K (.iv (.pt r))
 | .sl id Zz o k=>Zz=sz/\0<=m/\m<k/\K (.ep id sz (o+m.toNat) 0)
 | _=>False
section
variable{K2:AV->Prop}{sz Zz i o n k:Nat}{m:Int}{xs:List (List IV)}
@[simp]theorem b8e:iaK sz m K2 (.iv (.Z6 Zz xs))↔Zz=sz/\0<=m/\Yj xs[m.toNat]? fun r=>K2 (.iv (.pt r)):=⟨fun h=>h,fun h=>h⟩
@[simp]theorem b9e:iaK sz m K2 (.sl id Zz o k)↔Zz=sz/\0<=m/\m<k/\K2 (.ep id sz (o+m.toNat) 0):=⟨fun h=>h,fun h=>h⟩
@[simp]theorem b0f:ZQ P d s K (.ia sz x y)↔HR (s.ev y) fun m=>iaK sz m (K s) (s.ev x):=by
 rw[T5];simp only[ZQ];constructor
 ·intro h;split at h
  ·rename_i Zz xs k m e1 e2;refine⟨k,m,e2,?_⟩;rw[e1,b8e];refine⟨h.1,h.2.1,?_⟩
   cases hg:xs[m.toNat]? with
   |none=>rw[hg]at h;exact h.2.2.elim
   |some r=>rw[hg]at h;exact h.2.2
  ·rename_i id Zz o q k m e1 e2;refine⟨k,m,e2,?_⟩;rw[e1,b9e];exact h
  ·exact h.elim
 ·rintro⟨k,m,e2,h⟩;rw[e2]
  cases hx:s.ev x with
  |iv x'=>
   rw[hx]at h
   cases x' with
   |Z6 Zz xs=>
    rw[b8e]at h;refine⟨h.1,h.2.1,?_⟩
    cases hg:xs[m.toNat]? with
    |none=>rw[hg]at h;exact h.2.2.elim
    |some r=>rw[hg]at h;exact h.2.2
   | _=>exact h.elim
  |sl id Zz o q=>rw[hx,b9e]at h;exact h
  | _=>rw[hx]at h;exact h.elim
@[simp]theorem g2w{q:Nat}:ZQ P d s K (.ix q x y)↔Dp (s.ev x) fun cs=>HR (s.ev y) fun m=>0<=m/\m<q/\Yj cs[m.toNat]? (K s):=by
 constructor
 ·intro h;simp only[ZQ]at h;split at h
  ·rename_i cs k m h1 h2;rw[h1,h2];obtain⟨g1,g2,g3⟩:=h;refine⟨g1,g2,?_⟩
   cases hc:cs[m.toNat]? with
   |none=>rw[hc]at g3;exact g3.elim
   |some y=>rw[hc]at g3;exact g3
  ·exact h.elim
 ·intro h;simp only[ZQ]
  cases h1:s.ev x with
  |agg cs=>
   rw[h1]at h
   cases h2:s.ev y with
   |iv c=>
    rw[h2]at h
    cases c with
    |v z=>cases z with
     |int k m=>
      obtain⟨g1,g2,g3⟩:=h;refine⟨g1,g2,?_⟩
      cases hc:cs[m.toNat]? with
      |none=>rw[hc]at g3;exact g3.elim
      |some y=>rw[hc]at g3;exact g3
     | _=>exact h.elim
    | _=>exact h.elim
   | _=>rw[h2]at h;exact h.elim
  | _=>rw[h1]at h;exact h.elim
@[simp]theorem b1f:ZQ P d s K (.is x y)↔mr (s.ev x) fun t=>HR (s.ev y) fun m=>0<=m/\Yj t[m.toNat]? fun b=>K s (.iv (.v (.int .u8 b.toNat))):=by
 first
 |exact⟨fun h=>h,fun h=>h⟩
 |(
  simp only[ZQ,Td,Tc,Ta,S9,S8,Tr,T5,VJ,TS,TR,Tq,S7,S6];repeat' split
  all_goals first|(simp_all;done)|grind)
@[simp]theorem b2f:ZQ P d s K (.ext i x)↔a0S (s.ev x) fun vs=>Yj vs[i]? (K s):=by
 simp only[ZQ,Td,Tc,Ta,S9,S8,Tr,T5,VJ,TS,TR,Tq,S7,S6];repeat' split
 all_goals first|(simp_all;done)|grind
end
def FZ(x:AV)(K:Nat->Prop)[Tg K]:Prop:=match x with
 | .iv (.Z6 _ xs)=>K xs.length
 | .sl _ _ _ m=>K m
 | .nil _=>K 0
 | _=>False
section
variable{K2:Nat->Prop}{sz o n:Nat}{xs:List (List IV)}
@[simp]theorem b3f:FZ (.iv (.Z6 sz xs)) K2↔K2 xs.length:=⟨fun h=>h,fun h=>h⟩
@[simp]theorem b4f:FZ (.sl id sz o n) K2↔K2 n:=⟨fun h=>h,fun h=>h⟩
@[simp]theorem b5f:FZ (.nil sz) K2↔K2 0:=⟨fun h=>h,fun h=>h⟩
@[simp]theorem b6f:ZQ P d s K (.len x)↔FZ (s.ev x) fun n=>K s (.iv (.v (.int .i64 n))):=by
 first
 |exact⟨fun h=>h,fun h=>h⟩
 |(
  simp only[ZQ,FZ,Td,Tc,Ta,S9,S8,Tr,T5,VJ,TS,TR,Tq,S7,S6];repeat' split
  all_goals first|(simp_all;done)|grind)
@[simp]theorem b7f:ZQ P d s K (.lens x)↔mr (s.ev x) fun t=>K s (.iv (.v (.int .i64 t.size))):=⟨fun h=>h,fun h=>h⟩
end
def Cv(s:St)(d sz bytes:Nat)(ys:Option (Nat×List (List IV)))(K:St->AV->Prop)[Tg K]:AV->Prop
 | .sl id Zz lo m=>Yj ys fun(YH,ys)=>Yj (look s.hp id) fun o=>Yj o.TQ fun(_,xs)=>Zz=sz/\(YH=sz\/ys=[])/\id<1000/\lo+m=xs.length/\(m+ys.length)*bytes<=2^47/\m+ys.length<2^62∧
  K ((s.lone id).add id (o.Xn sz (xs.drop lo++ys))) (.sl id sz 0 (m+ys.length))
 | .nil _=>Yj ys fun(YH,ys)=>(YH=sz\/ys=[])/\ys.length*bytes<=2^47/\ys.length<2^62/\K ((s.drop d).add d (.list sz ys)) (.sl d sz 0 ys.length)
 | _=>False
section
variable{sz Zz YH bytes lo m:Nat}{ys:List (List IV)}
@[simp]theorem b8f:Cv s d sz bytes (some (YH,ys)) K (.sl id Zz lo m)↔Yj (look s.hp id) fun o=>Yj o.TQ fun xs=>Zz=sz/\(YH=sz\/ys=[])/\id<1000/\lo+m=xs.2.length/\(m+ys.length)*bytes<=2^47/\m+ys.length<2^62∧
 K ((s.lone id).add id (o.Xn sz (xs.2.drop lo++ys))) (.sl id sz 0 (m+ys.length)):=⟨fun h=>h,fun h=>h⟩
@[simp]theorem b9f:Cv s d sz bytes (some (YH,ys)) K (.nil Zz)↔(YH=sz\/ys=[])/\ys.length*bytes<=2^47/\ys.length<2^62/\K ((s.drop d).add d (.list sz ys)) (.sl d sz 0 ys.length):=⟨fun h=>h,fun h=>h⟩
@[simp]theorem b0g:ZQ P d s K (.app sz bytes x y)↔Cv s d sz bytes (s.elems (s.ev y)) K (s.ev x):=by
 first
 |exact⟨fun h=>h,fun h=>h⟩
 |(
  simp only[ZQ,Cv,Td,Tc,Ta,S9,S8,Tr,T5,VJ,TS,TR,Tq,S7,S6];repeat' split
  all_goals first|(simp_all;done)|grind)
@[simp]theorem b1g{mx:Bool}{xs:List Operand}:ZQ P d s K (.mm mx xs)↔Yj (c5S mx (xs.map s.ev)) fun p=>K s (.iv (.v (.int p.1 p.2))):=by
 first
 |exact⟨fun h=>h,fun h=>h⟩
 |(
  simp only[ZQ,Td,Tc,Ta,S9,S8,Tr,T5,VJ,TS,TR,Tq,S7,S6];repeat' split
  all_goals first|(simp_all;done)|grind)
@[simp]theorem b2g{f:FuncId}{first caps:List Operand}:ZQ P d s K (.VO f first caps)↔Yj (Zg AV.cap (first.map s.ev)) fun a=>Yj (Zg AV.cap (caps.map s.ev)) fun b=>K s (.fn f a b):=by
 first
 |exact⟨fun h=>h,fun h=>h⟩
 |(
  simp only[ZQ,Cx,Td,Tc,Ta,S9,S8,Tr,T5,VJ,TS,TR,Tq,S7,S6];repeat' split
  all_goals first|(simp_all;done)|grind)
@[simp]theorem b3g{f:FuncId}{args:List Operand}:ZQ P d s K (.call f args)↔MP P d f [] args [] none s K:=⟨fun h=>h,fun h=>h⟩
end
def b4g(P:Program)(d:Nat)(args:List Operand)(x:Operand)(s:St)(K:St->AV->Prop)[Tg K]:AV->Prop
 | .fn f first caps=>XV P f=true/\KQ P d f first args caps (some x) s K
 | .iv (.v (.func (.yield l) vf vc))=>vf= #[]/\vc= #[]/\c8H P l args s K
 | .iv (.v (.func (.func f) vf vc))=>vf= #[]/\vc= #[]/\XV P f=true/\KQ P d f [] args [] none s K
 | _=>False
@[simp]theorem b5g{args:List Operand}{l:Nat}:b4g P d args x s K (.iv (.v (.func (.yield l) #[] #[])))↔a7R P l args s K:=⟨fun h=>h.2.2,fun h=>⟨rfl,rfl,h⟩⟩
@[simp]theorem b6g{args:List Operand}{f:FuncId}:b4g P d args x s K (.iv (.v (.func (.func f) #[] #[])))↔XV P f=true/\MP P d f [] args [] none s K:=⟨fun h=>h.2.2,fun h=>⟨rfl,rfl,h⟩⟩
@[simp]theorem b7g{args:List Operand}{f:FuncId}{first caps:List Z3}:b4g P d args x s K (.fn f first caps)↔XV P f=true/\MP P d f first args caps (some x) s K:=⟨fun h=>h,fun h=>h⟩
@[simp]theorem b8g{args:List Operand}:ZQ P d s K (.Zc x args)↔b4g P d args x s K (s.ev x):=by
 first
 |exact⟨fun h=>h,fun h=>h⟩
 |(
  simp only[ZQ,b4g,Td,Tc,Ta,S9,S8,Tr,T5,VJ,TS,TR,Tq,S7,S6];repeat' split
  all_goals first|(simp_all;done)|grind)
def snK(x:AV)(K:Bool->Prop)[Tg K]:Prop:=match x with
 | .nil _=>K true
 | .sl _ _ _ m=>∀b:Bool,(0<m->b=false)->K b
 | .iv (.Z6 _ xs)=>∀b:Bool,(xs≠[]->b=false)->K b
 | _=>False
section
variable{K2:Bool->Prop}{sz o n:Nat}{xs:List (List IV)}
@[simp]theorem b9g:snK (.nil sz) K2↔K2 true:=⟨fun h=>h,fun h=>h⟩
@[simp]theorem b0h:snK (.sl id sz o n) K2↔∀b:Bool,(0<n->b=false)->K2 b:=⟨fun h=>h,fun h=>h⟩
@[simp]theorem b1h:snK (.iv (.Z6 sz xs)) K2↔∀b:Bool,(xs≠[]->b=false)->K2 b:=⟨fun h=>h,fun h=>h⟩
@[simp]theorem b2h{neg:Bool}:ZQ P d s K (.PG neg x)↔snK (s.ev x) fun b=>K s (.iv (.v (.bool (if neg then !b else b)))):=by
 first
 |exact⟨fun h=>h,fun h=>h⟩
 |(
  simp only[ZQ,snK,Td,Tc,Ta,S9,S8,Tr,T5,VJ,TS,TR,Tq,S7,S6];repeat' split
  all_goals first|(simp_all;done)|grind)
end
section
variable{sz bytes:Nat}{z:List AV}{l c m k:Operand}{sk:Sk}{ok:Bool}
def mq(s:St)(d sz bytes:Nat)(z:List AV)(m q:Int)(K:St->AV->Prop)[Tg K]:Option Nat->Prop
 |some Zz=>0<=m/\q=m/\m<2^62/\(bytes:Int)*m<=2^47/\sz=1/\K ((s.drop d).add d (.ZI Zz (a2N m.toNat []) none)) (.sl d 1 0 m.toNat)
 |none=>Yj (Zg AV.iv? z) fun zi=>0<=m/\q=m/\m<2^62/\(bytes:Int)*m<=2^47/\K ((s.drop d).add d (.list sz (a2N m.toNat zi))) (.sl d sz 0 m.toNat)
@[simp]theorem b3h{sz:Nat}:Dk [.nil sz]=some sz:=rfl
@[simp]theorem f1O{x:IV}{r:List AV}:Dk (.iv x::r)=none:=by cases r<;>rfl
@[simp]theorem b4h{x y:AV}{r:List AV}:Dk (x::y::r)=none:=by cases x<;>rfl
@[simp]theorem b5h{Zz:Nat}{m q:Int}:mq s d sz bytes z m q K (some Zz)↔0<=m/\q=m/\m<2^62/\(bytes:Int)*m<=2^47/\sz=1/\K ((s.drop d).add d (.ZI Zz (a2N m.toNat []) none)) (.sl d 1 0 m.toNat):=⟨fun h=>h,fun h=>h⟩
@[simp]theorem b6h{m q:Int}:mq s d sz bytes z m q K none↔Yj (Zg AV.iv? z) fun zi=>0<=m/\q=m/\m<2^62/\(bytes:Int)*m<=2^47/\K ((s.drop d).add d (.list sz (a2N m.toNat zi))) (.sl d sz 0 m.toNat):=⟨fun h=>h,fun h=>h⟩
@[simp]theorem b7h:ZQ P d s K (.mks sz bytes z l c)↔HR (s.ev l) fun m=>HR (s.ev c) fun q=>mq s d sz bytes z m q K (Dk z):=by
 cases hz:Dk z with
 |some Zz=>
  simp only[ZQ,hz,b5h,T5];repeat' split
  all_goals first|(simp_all;done)|grind
 |none=>
  simp only[ZQ,hz,b6h,Cx,T5,VJ];repeat' split
  all_goals first|(simp_all;done)|grind
def f2O(s:St)(sz:Nat)(K:St->AV->Prop)[Tg K]:Option (Nat×List (List IV))->AV->Prop
 |some (YH,ys), .sl id Zz lo m=>F1 (look s.hp id) fun IG xs=>(xs≠[]/\lo=0)/\(Zz=sz/\IG=sz/\YH=sz)/\m=xs.length/\ys.length=m/\K (s.add id (.list sz ys)) (.iv (.v (.int .i64 m)))
 | _,_=>False
@[simp]theorem b8h{sz YH id Zz lo m:Nat}{ys:List (List IV)}:f2O s sz K (some (YH,ys)) (.sl id Zz lo m)↔F1 (look s.hp id) fun IG xs=>(xs≠[]/\lo=0)/\(Zz=sz/\IG=sz/\YH=sz)/\m=xs.length/\ys.length=m/\K (s.add id (.list sz ys)) (.iv (.v (.int .i64 m))):=c8O
@[simp]theorem g4b{sz:Nat}:ZQ P d s K (.cpy sz x y)↔f2O s sz K (s.elems (s.ev y)) (s.ev x):=by
 simp only[ZQ];generalize s.ev x=ax;generalize s.elems (s.ev y)=e
 cases e with
 |none=>cases ax<;>exact c8O
 |some p=>obtain⟨YH,ys⟩:=p;cases ax with
  |sl id Zz lo m=>
   simp only[b8h,TR]
   repeat' split
   all_goals first|(simp_all;done)|grind
  | _=>exact c8O
def f3O(s:St)(sz:Nat)(K:St->AV->Prop)[Tg K]:Option (List IV)->AV->Prop
 |some zi, .sl id Zz lo m=>F1 (look s.hp id) fun IG xs=>(Zz=sz/\IG=sz)/\(0<m/\lo+m<=xs.length)/\K (s.add id (.list sz (xs.take lo++a2N m zi++xs.drop (lo+m)))) (.Zp [])
 | _,_=>False
@[simp]theorem b9h{sz id Zz lo m:Nat}{zi:List IV}:f3O s sz K (some zi) (.sl id Zz lo m)↔F1 (look s.hp id) fun IG xs=>(Zz=sz/\IG=sz)/\(0<m/\lo+m<=xs.length)/\K (s.add id (.list sz (xs.take lo++a2N m zi++xs.drop (lo+m)))) (.Zp []):=c8O
@[simp]theorem g5b{sz:Nat}{z:List AV}:ZQ P d s K (.clr sz z x)↔f3O s sz K (Zg AV.iv? z) (s.ev x):=by
 simp only[ZQ,Cx];generalize s.ev x=ax;generalize Zg AV.iv? z=e
 cases e with
 |none=>cases ax<;>exact c8O
 |some zi=>cases ax with
  |sl id Zz lo m=>
   simp only[b9h,TR]
   repeat' split
   all_goals first|(simp_all;done)|grind
  | _=>exact c8O
@[simp]theorem b0i:ZQ P d s K (.XB sk)↔K ((s.drop d).add d (.map sk fun _=>none)) (.mpr d):=⟨fun h=>h,fun h=>h⟩
@[simp]theorem b1i:ZQ P d s K (.FY sk m k)↔Dm (s.ev m) fun id=>Yj (SB (s.ev k)) fun kk=>Cy (look s.hp id) fun Xi g=>Xi=sk/\kk.1=(sk.1,sk.2.1)/\K (s.add id (.map sk (ZH g kk.2 none))) (.Zp []):=by
 first
 |exact⟨fun h=>h,fun h=>h⟩
 |(
  simp only[ZQ,Td,Tc,Ta,S9,S8,Tr,T5,VJ,TS,TR,Tq,S7,S6];repeat' split
  all_goals first|(simp_all;done)|grind)
@[simp]theorem b2i:ZQ P d s K (.FX x)↔Yj (s.mapOf (s.ev x)) fun p=>∀n:Nat,(n=0↔∀k,p.2 k=none)->K s (.iv (.v (.int .i64 n))):=by
 first
 |exact⟨fun h=>h,fun h=>h⟩
 |(
  simp only[ZQ,Td,Tc,Ta,S9,S8,Tr,T5,VJ,TS,TR,Tq,S7,S6];repeat' split
  all_goals first|(simp_all;done)|grind)
@[simp]theorem b3i:ZQ P d s K (.IC sk z m k)↔Dm (s.ev m) fun id=>Yj (SB (s.ev k)) fun kk=>Yj (Zg AV.iv? z) fun zi=>Cy (look s.hp id) fun Xi g=>Xi=sk/\kk.1=(sk.1,sk.2.1)∧
 ∀n:Int,K (s.add id (.WE sk (ZH g kk.2 (some ((g kk.2).getD zi))) n kk.2)) (.Zp [S5 sk.2.2 (((g kk.2).getD zi).map .iv), .iv (.v (.int .i64 n))]):=by
 first
 |exact⟨fun h=>h,fun h=>h⟩
 |(
  simp only[ZQ,Td,Tc,Ta,S9,S8,Tr,T5,VJ,TS,TR,Tq,S7,S6];repeat' split
  all_goals first|(simp_all;done)|grind)
@[simp]theorem b4i:ZQ P d s K (.est m k x)↔Dm ((s.YX [s.ev x]).ev m) fun id=>HR ((s.YX [s.ev x]).ev k) fun n'=>Yj (((s.YX [s.ev x]).ev x).cellsOf.bind fun cs=>Zg AV.iv? cs) fun c=>
 a5S (look (s.YX [s.ev x]).hp id) fun sk g n kk=>n'=n/\FW ((s.YX [s.ev x]).ev x)=sk.2.2/\K ((s.YX [s.ev x]).add id (.map sk (ZH g kk (some c)))) .un:=by
 first
 |exact⟨fun h=>h,fun h=>h⟩
 |(
  simp only[ZQ,Cx,Td,Tc,Ta,S9,S8,Tr,T5,VJ,TS,TR,Tq,S7,S6];repeat' split
  all_goals first|(simp_all;done)|grind)
def mo(x:AV)(K:Sk->(List Value->Option (List IV))->Prop)[Tg K]:Prop:=match x with| .iv (.mp sk g)=>K sk g| _=>False
@[simp]theorem b5i{g}{K:Sk->(List Value->Option (List IV))->Prop}:mo (.iv (.mp sk g)) K↔K sk g:=⟨fun h=>h,fun h=>h⟩
@[simp]theorem b6i:ZQ P d s K (.QB sk x)↔mo (((s.YX [s.ev x]).drop d).ev x) fun Dj g=>Dj=sk∧
 ∀L:List (List Value),L.Nodup->(∀k,k∈L↔g k≠none)->(∀k∈L,k.mapM Y0=some sk.2.1)->K (((s.YX [s.ev x]).drop d).add d (.iter sk g L none)) (.ptr d 0):=by
 first
 |exact⟨fun h=>h,fun h=>h⟩
 |(
  simp only[ZQ,mo,Td,Tc,Ta,S9,S8,Tr,T5,VJ,TS,TR,Tq,S7,S6];repeat' split
  all_goals first|(simp_all;done)|grind)
def IB(x:AV)(K:Nat->Prop)[Tg K]:Prop:=match x with| .ptr id 0=>K id| _=>False
@[simp]theorem b7i{K:Nat->Prop}:IB (.ptr id 0) K↔K id:=⟨fun h=>h,fun h=>h⟩
@[simp]theorem b8i:ZQ P d s K (.nxt x)↔IB (s.ev x) fun id=>Dn (look s.hp id) fun sk g left _=>(left=[]->K s (.Zp [.iv (.v (.bool false))]))∧
 ∀k c,k∈left->g k=some c->k.mapM Y0=some sk.2.1->K (s.add id (.iter sk g (Ou k left) (some k))) (.Zp [vtrue,S5 sk.1 (k.map fun v=> .iv (.v v)),S5 sk.2.2 (c.map .iv)]):=by
 first
 |exact⟨fun h=>h,fun h=>h⟩
 |(
  simp only[ZQ,IB,Td,Tc,Ta,S9,S8,Tr,T5,VJ,TS,TR,Tq,S7,S6];repeat' split
  all_goals first|(simp_all;done)|grind)
@[simp]theorem b9i:ZQ P d s K (.SK x)↔IB (s.ev x) fun id=>Dn (look s.hp id) fun sk g _ last=>Yj last fun k=>∀c,g k=some c->K s (.Zp [S5 sk.1 (k.map fun v=> .iv (.v v)),S5 sk.2.2 (c.map .iv)]):=by
 simp only[ZQ];split
 ·rename_i i e;rw[e];simp only[IB]
  cases hl:look s.hp i with
  |none=>simp[Dn]
  |some o=>cases o with
   |iter sk g left last=>cases last<;>simp[Dn]
   | _=>simp[Dn]
 ·rename_i hn;refine⟨fun h=>h.elim,fun h=>?_⟩;unfold IB at h;split at h
  ·rename_i e;exact(hn _ e).elim
  ·exact h
end
end
section
variable{n r:St->Prop}{x g:Nat->St->Prop}{s:St}{i:Nat}
theorem b0j:Yr.n ⟨n,x,r,g⟩ s↔n s:=⟨fun h=>h,fun h=>h⟩
theorem b1j:Yr.x ⟨n,x,r,g⟩ i s↔x i s:=⟨fun h=>h,fun h=>h⟩
theorem b2j:Yr.r ⟨n,x,r,g⟩ s↔r s:=⟨fun h=>h,fun h=>h⟩
theorem b3j:Yr.g ⟨n,x,r,g⟩ i s↔g i s:=⟨fun h=>h,fun h=>h⟩
end
attribute [simp ↓] b0j b1j b2j b3j
attribute [simp ↓] onB_b onG_b a8S onD_t onD_f a9S a0T a1T a2T a3T onV_v onI_i onT_t a4T onS_n a5T a6T a7T a8T a9T a0U a1U a2U a5Y a6Y a7Y a8Y a9Y a0Z a1Z a2Z a3Z a4Z a5Z a6Z a7Z a8Z a9Z b0a b1a b2a b3a b4a b5a b6a b7a b8a b9a b0b b1b b2b b3b b4b b5b b6b b7b b8b b0c b1c b2c b3c b4c b5c b6c b7c b8c b9c b0d b1d b2d b3d b4d b5d b6d b7d b8d b9d b0e b1e b2e b3e b4e b5e b6e b7e b8e b9e b0f b1f b2f b3f b4f b5f b6f b7f b8f b9f b0g b1g b2g b3g b7g b6g b8g b9g b0h b1h b2h b7h b0i b1i b2i b3i b4i b5i b6i b7i b8i b9i
attribute [simp ↓ low] onD_b onH_t onH_f
section
variable{P:Program}{d id off:Nat}{s:St}{K:St->AV->Prop}{x y m k:Operand}{sk:Sk}{z:List AV}{ok:Bool}
abbrev Mo:=Nat×Sk×Nat×(List Value->Option (List (List IV)))×Option (List Value)
def onZ(z:List AV)(K:Nat->Prop)[Tg K]:Prop:=match z with| [.nil sz]=>K sz| _=>False
@[simp]theorem d0E{sz:Nat}{K:Nat->Prop}:onZ [.nil sz] K↔K sz:=⟨fun h=>h,fun h=>h⟩
theorem d1E{z:List AV}{K:Nat->Prop}:onZ z K↔∃sz,z=[.nil sz]/\K sz:=by
 unfold onZ;split<;>simp_all
def f6v(d:Nat)(s:St)(sk:Sk)(z:List AV)(m k:Operand)(ok:Bool)(K:St->AV->Prop)[Tg K]:Option Mo->Prop
 |none=>Yj (s.mapOf (s.ev m)) fun p=>Yj (SB (s.ev k)) fun q=>p.1=sk/\q.1=(sk.1,sk.2.1)/\K s (Nz z sk.2.2 ok (p.2 q.2))
 |some (id,Xi,sz,g,hole)=>Yj (SB ((s.drop d).ev k)) fun q=>onZ z fun Zz=>ok=false/\Xi=sk/\q.1=(sk.1,sk.2.1)/\Zz=sz/\hole=none∧
  (g q.2=none->K (s.drop d) (.nil sz))/\∀xs,g q.2=some xs->K (((s.drop d).add id (.YA sk sz (ZH g q.2 none) (some q.2))).add d (.YN id sz xs)) (.sl d sz 0 xs.length)
@[simp]theorem d2E:f6v d s sk z m k ok K none↔Yj (s.mapOf (s.ev m)) fun p=>Yj (SB (s.ev k)) fun q=>p.1=sk/\q.1=(sk.1,sk.2.1)/\K s (Nz z sk.2.2 ok (p.2 q.2)):=⟨fun h=>h,fun h=>h⟩
@[simp]theorem d3E{Xi sz g hole}:f6v d s sk z m k ok K (some (id,Xi,sz,g,hole))↔Yj (SB ((s.drop d).ev k)) fun q=>onZ z fun Zz=>ok=false/\Xi=sk/\q.1=(sk.1,sk.2.1)/\Zz=sz/\hole=none∧
 (g q.2=none->K (s.drop d) (.nil sz))/\∀xs,g q.2=some xs->K (((s.drop d).add id (.YA sk sz (ZH g q.2 none) (some q.2))).add d (.YN id sz xs)) (.sl d sz 0 xs.length):=⟨fun h=>h,fun h=>h⟩
@[simp]theorem d4E:ZQ P d s K (.UE sk z m k ok)↔f6v d s sk z m k ok K ((s.drop d).Qw ((s.drop d).ev m)):=by
 simp only[ZQ];split
 ·rename_i id Xi sz g hole e;rw[e];simp only[d3E];split
  ·rename_i S3 kk Zz e2;rw[e2];simp only[a4T,d0E]
   cases hg:g kk<;>simp
  ·rename_i hn;refine⟨fun h=>h.elim,fun h=>?_⟩;obtain⟨q,e2,h⟩:=VJ.1 h;obtain⟨Zz,e3,h⟩:=d1E.1 h;exact hn _ _ _ e2 e3
 ·rename_i e;rw[e];simp only[d2E];split
  ·rename_i e1 e2;rw[e1,e2];exact⟨fun h=>h,fun h=>h⟩
  ·rename_i hn;refine⟨fun h=>h.elim,fun h=>?_⟩;obtain⟨q,e2,h⟩:=VJ.1 h;obtain⟨p,e3,h⟩:=VJ.1 h;exact hn _ _ _ _ e2 e3
def DW(x:AV)(K:Nat->Nat->Nat->Prop)[Tg K]:Prop:=match x with| .sl id sz 0 len=>K id sz len| _=>False
@[simp]theorem d5E{sz len:Nat}{K:Nat->Nat->Nat->Prop}:DW (.sl id sz 0 len) K↔K id sz len:=⟨fun h=>h,fun h=>h⟩
theorem d6E{x:AV}{K:Nat->Nat->Nat->Prop}:DW x K↔∃id sz len,x= .sl id sz 0 len/\K id sz len:=by
 unfold DW;split
 ·exact⟨fun h=>⟨_,_,_,rfl,h⟩,fun⟨_,_,_,e,h⟩=>by cases e;exact h⟩
 ·rename_i hn;exact⟨fun h=>h.elim,fun⟨_,_,_,e,h⟩=>(hn _ _ _ e).elim⟩
def DV(
 s:St) (sk:Sk) (m k x:Operand) (K:St->AV->Prop) [Tg K]:Option Mo->Prop
 |none=>Dm ((s.YX [s.ev x]).oz ((s.YX [s.ev x]).ev m)) fun id=>Yj (SB ((s.YX [s.ev x]).ev k)) fun q=>Yj (((s.YX [s.ev x]).ev x).cellsOf.bind fun cs=>Zg AV.iv? cs) fun c=>Cy (look (s.YX [s.ev x]).hp id) fun Xi g=>
  Xi=sk/\q.1=(sk.1,sk.2.1)/\FW ((s.YX [s.ev x]).ev x)=sk.2.2/\K ((s.YX [s.ev x]).add id (.map sk (ZH g q.2 (some c)))) .un
 |some (id,Xi,sz,g,hole)=>Yj (SB (s.ev k)) fun q=>DW (s.ev x) fun d' Zz len=>Yj (look s.hp d') fun o=>Yj o.TQ fun xs=>
  Xi=sk/\q.1=(sk.1,sk.2.1)/\Zz=sz/\d'<1000/\d'≠id/\len=xs.2.length/\(o.org?=none\/o.org?=some id)∧
   (hole=some q.2\/(hole=none/\g q.2=none))/\K ((s.kill d').add id (.YA sk sz (ZH g q.2 (some xs.2)) none)) .un
@[simp]theorem d7E:DV s sk m k x K none↔Dm ((s.YX [s.ev x]).oz ((s.YX [s.ev x]).ev m)) fun id=>Yj (SB ((s.YX [s.ev x]).ev k)) fun q=>Yj (((s.YX [s.ev x]).ev x).cellsOf.bind fun cs=>Zg AV.iv? cs) fun c=>Cy (look (s.YX [s.ev x]).hp id) fun Xi g=>
 Xi=sk/\q.1=(sk.1,sk.2.1)/\FW ((s.YX [s.ev x]).ev x)=sk.2.2/\K ((s.YX [s.ev x]).add id (.map sk (ZH g q.2 (some c)))) .un:=⟨fun h=>h,fun h=>h⟩
@[simp]theorem d8E{Xi sz g hole}:DV s sk m k x K (some (id,Xi,sz,g,hole))↔Yj (SB (s.ev k)) fun q=>DW (s.ev x) fun d' Zz len=>Yj (look s.hp d') fun o=>Yj o.TQ fun xs=>
 Xi=sk/\q.1=(sk.1,sk.2.1)/\Zz=sz/\d'<1000/\d'≠id/\len=xs.2.length/\(o.org?=none\/o.org?=some id)∧
  (hole=some q.2\/(hole=none/\g q.2=none))/\K ((s.kill d').add id (.YA sk sz (ZH g q.2 (some xs.2)) none)) .un:=⟨fun h=>h,fun h=>h⟩
@[simp]theorem d9E:ZQ P d s K (.Yy sk m k x)↔DV s sk m k x K (s.Qw (s.ev m)):=by
 simp only[ZQ];split
 ·rename_i id Xi sz g hole e;rw[e];simp only[d8E];split
  ·rename_i S3 kk d' Zz len e1 e2;rw[e1,e2];simp only[a4T,d5E]
   cases look s.hp d' with
   |none=>simp
   |some o=>
    simp only[a4T]
    cases o.TQ with
    |none=>simp
    |some p=>obtain⟨_,xs⟩:=p;simp
  ·rename_i hn;refine⟨fun h=>h.elim,fun h=>?_⟩;obtain⟨q,e2,h⟩:=VJ.1 h;obtain⟨_,_,_,e3,h⟩:=d6E.1 h;exact hn _ _ _ _ _ e2 e3
 ·rename_i e;rw[e];simp only[d7E,Cx];split
  ·rename_i id S3 kk c e1 e2 e3;rw[e1,e2,e3];simp only[a2U,a4T];split
   ·rename_i Xi g e4;rw[e4];simp
   ·rename_i hn;refine⟨fun h=>h.elim,fun h=>?_⟩;obtain⟨_,_,e4,h⟩:=Tq.1 h;exact hn _ _ e4
  ·rename_i hn;refine⟨fun h=>h.elim,fun h=>?_⟩;obtain⟨id,e1,h⟩:=Tr.1 h;obtain⟨q,e2,h⟩:=VJ.1 h;obtain⟨c,e3,h⟩:=VJ.1 h;exact hn _ _ _ _ e1 e2 e3
end
section
variable{id sz lo len i off:Nat}{x:IV}{cs:List AV}{f:FuncId}{a b:List Z3}{s:St}
@[simp]theorem d0F:AV.cellsOf (.agg cs)=some cs:=rfl
@[simp]theorem d1F:AV.cellsOf (.iv x)=some [.iv x]:=rfl
@[simp]theorem d2F:AV.cellsOf (.nil sz)=some [.nil sz]:=rfl
@[simp]theorem d3F:AV.cellsOf (.sl id sz lo len)=some [.sl id sz lo len]:=rfl
@[simp]theorem d4F:AV.cellsOf (.ptr id off)=some [.ptr id off]:=rfl
@[simp]theorem d5F:AV.cellsOf (.ep id sz i off)=some [.ep id sz i off]:=rfl
@[simp]theorem d6F:AV.cellsOf (.mpr id)=some [.mpr id]:=rfl
@[simp]theorem d7F:AV.cellsOf (.fn f a b)=some [.fn f a b]:=rfl
@[simp]theorem d8F:AV.one (.iv x)=true:=rfl
@[simp]theorem g0n:AV.one (.nil sz)=true:=rfl
@[simp]theorem g0Q:AV.one (.sl id sz lo len)=true:=rfl
@[simp]theorem g1n:AV.one (.ptr id off)=true:=rfl
@[simp]theorem g1Q:AV.one (.ep id sz i off)=true:=rfl
@[simp]theorem g2n:AV.one (.mpr id)=true:=rfl
@[simp]theorem g2Q:AV.one (.fn f a b)=true:=rfl
@[simp]theorem g3Q:AV.iv? (.iv x)=some x:=rfl
@[simp]theorem g3n:AV.iv? (.nil sz)=some (.Z6 sz []):=rfl
@[simp]theorem g4Q:AV.Xt (.iv x)=some x:=rfl
@[simp]theorem g4n:AV.Xt (.nil sz)=some (.Z6 sz []):=rfl
@[simp]theorem g5Q:AV.Xt (.sl id sz lo len)=none:=rfl
@[simp]theorem g5n:AV.Xt (.ptr id off)=none:=rfl
@[simp]theorem g6n:AV.Xt (.mpr id)=none:=rfl
@[simp]theorem g6Q:AV.Xt (.fn f a b)=none:=rfl
@[simp]theorem d9F:Sq []=some []:=rfl
@[simp]theorem f3T:Sq (.iv x::cs)=(Sq cs).map fun l=>x::l:=rfl
@[simp]theorem f4T:Sq (.nil sz::cs)=(Sq cs).map fun l=> .Z6 sz []::l:=rfl
@[simp]theorem f5T:Sq (.sl id sz lo len::cs)=none:=rfl
@[simp]theorem d0G:Sq (.mpr id::cs)=none:=rfl
@[simp]theorem d1G:Sq (.ptr id off::cs)=none:=rfl
@[simp]theorem f6T:Sq (.fn f a b::cs)=none:=rfl
@[simp]theorem d2G{l:List IV}:Sq (l.map .iv)=some l:=by
 induction l with
 |nil=>rfl
 |cons x l ih=>simp[ih]
@[simp]theorem f7T{α β:Type}{g:α->Option β}:Zg g []=some []:=rfl
@[simp]theorem f8T{l:List IV}:Zg AV.iv? (l.map .iv)=some l:=by
 induction l with
 |nil=>rfl
 |cons x l ih=>simp[Zg,ih]
@[simp]theorem g7n:Zg AV.iv? (.iv x::cs)=(Zg AV.iv? cs).map fun l=>x::l:=rfl
@[simp]theorem f9T:Zg AV.iv? (.nil sz::cs)=(Zg AV.iv? cs).map fun l=> .Z6 sz []::l:=rfl
@[simp]theorem d3G:Zg AV.cap (.ptr id off::cs)=(Zg AV.cap cs).map fun l=> .ptr id off::l:=rfl
@[simp]theorem d4G:Zg AV.cap (.iv x::cs)=(Zg AV.cap cs).map fun l=> .val x::l:=rfl
@[simp]theorem d5G:Zg AV.cap (.nil sz::cs)=(Zg AV.cap cs).map fun l=> .val (.Z6 sz [])::l:=rfl
@[simp]theorem d6G:Z3.av (.ptr id off)= .ptr id off:=rfl
@[simp]theorem d7G:Z3.av (.val x)= .iv x:=rfl
@[simp]theorem d8G:FW (.agg cs)=true:=rfl
@[simp]theorem f0U:FW (.iv x)=false:=rfl
@[simp]theorem d9G:FW (.nil sz)=false:=rfl
@[simp]theorem g7Q:S5 true cs= .agg cs:=rfl
@[simp]theorem g8Q{y:AV}:S5 false [y]=y:=rfl
@[simp]theorem h4b{z:List AV}{ag ok:Bool}{c:List IV}:Nz z ag ok (some c)=if ok then .Zp [S5 ag (c.map .iv), .iv (.v (.bool true))]else S5 ag (c.map .iv):=rfl
@[simp]theorem h5b{z:List AV}{ag ok:Bool}:Nz z ag ok none=if ok then .Zp [S5 ag z, .iv (.v (.bool false))]else S5 ag z:=rfl
@[simp]theorem h3d{b:Bool}:Y0 (.bool b)=some .b:=rfl
@[simp]theorem h4d{k:IntKind}{n:Int}:Y0 (.int k n)=some (.i k):=rfl
@[simp]theorem h5d{t:ByteArray}:Y0 (.string t)=some .s:=rfl
@[simp]theorem g8n{b:Bool}:SB (.iv (.v (.bool b)))=some ((false,[.b]),[.bool b]):=rfl
@[simp]theorem g9n{k:IntKind}{n:Int}:SB (.iv (.v (.int k n)))=some ((false,[.i k]),[.int k n]):=rfl
@[simp]theorem g0o{t:ByteArray}:SB (.iv (.v (.string t)))=some ((false,[.s]),[.string t]):=rfl
@[simp]theorem d0H:SB (.agg cs)=(Zg Hq cs).map fun l=>((true,l.map (·.1)),l.map (·.2)):=by simp[SB,Cx]
@[simp]theorem d1H{b:Bool}:Zg Hq (.iv (.v (.bool b))::cs)=(Zg Hq cs).map fun l=>(.b, .bool b)::l:=rfl
@[simp]theorem d2H{k:IntKind}{n:Int}:Zg Hq (.iv (.v (.int k n))::cs)=(Zg Hq cs).map fun l=>(.i k, .int k n)::l:=rfl
@[simp]theorem d3H{t:ByteArray}:Zg Hq (.iv (.v (.string t))::cs)=(Zg Hq cs).map fun l=>(.s, .string t)::l:=rfl
theorem d4H(a b:ByteArray):(a==b)=decide (a=b):=by
 cases a with|mk x=>cases b with|mk y=>
 rw[b4H,decide_eq_true_eq,d4S, <-beq_iff_eq (a:=x) (b:=y)];exact⟨fun h=>h,fun h=>h⟩
@[simp]theorem d5H:TY [] [] []=some true:=rfl
@[simp]theorem d6H{ks:List Kd}{a b:Bool}{r q:List AV}:TY (.b::ks) (.iv (.v (.bool a))::r) (.iv (.v (.bool b))::q)=(TY ks r q).map fun y=>(a==b)&&y:=rfl
@[simp]theorem d7H{ks:List Kd}{k:IntKind}{a b:Int}{r q:List AV}:TY (.i k::ks) (.iv (.v (.int .i64 a))::r) (.iv (.v (.int .i64 b))::q)=(TY ks r q).map fun y=>(a==b)&&y:=rfl
@[simp]theorem d8H{ks:List Kd}{a b:ByteArray}{r q:List AV}:TY (.s::ks) (.iv (.v (.string a))::r) (.iv (.v (.string b))::q)=(TY ks r q).map fun y=>decide (a=b)&&y:=by rw[<-d4H];rfl
theorem d9H{a b:ByteArray}:kQ a b=decide (a=b):=by
 unfold kQ;rw[b4H];simp only[beq_iff_eq,decide_eq_true_eq];constructor
 ·intro h
  have e:a.data.toList=b.data.toList:=by simpa[ByteArray.toList_eq]using h
  cases a;cases b;simp only at e
  congr 1
  exact Array.toList_inj.1 e
 ·rintro rfl;rfl
@[simp]theorem g1o{k k':IntKind}{m n:Int}:YT .add (.int .i64 m) (.int .i64 n)=some (.int .i64 (IntKind.i64.wrap (m+n))):=rfl
@[simp]theorem g2o{m n:Int}:YT .sub (.int .i64 m) (.int .i64 n)=some (.int .i64 (IntKind.i64.wrap (m-n))):=rfl
@[simp]theorem g3o{m n:Int}:YT .mul (.int .i64 m) (.int .i64 n)=some (.int .i64 (IntKind.i64.wrap (m*n))):=rfl
@[simp]theorem g4o{m n:Int}:YT .rem (.int .i64 m) (.int .i64 n)=if n=0 then none else some (.int .i64 (m.tmod n)):=rfl
@[simp]theorem g5o{m n:Int}:YT .and (.int .i64 m) (.int .i64 n)=some (.int .i64 (c8R .and .i64 m n)):=rfl
@[simp]theorem g6o{k:IntKind}{m n:Int}:YT .eql (.int k m) (.int k n)=some (.bool (m==n)):=by simp[YT,Pr]
@[simp]theorem g7o{k:IntKind}{m n:Int}:YT .neq (.int k m) (.int k n)=some (.bool (m != n)):=by simp[YT,Pr]
@[simp]theorem g8o{k:IntKind}{m n:Int}:YT .lss (.int k m) (.int k n)=some (.bool (decide (m<n))):=by simp[YT,Pr]
@[simp]theorem g9o{k:IntKind}{m n:Int}:YT .leq (.int k m) (.int k n)=some (.bool (decide (m<=n))):=by simp[YT,Pr]
@[simp]theorem g0p{k:IntKind}{m n:Int}:YT .gtr (.int k m) (.int k n)=some (.bool (decide (n<m))):=by simp[YT,Pr]
@[simp]theorem g1p{k:IntKind}{m n:Int}:YT .geq (.int k m) (.int k n)=some (.bool (decide (n<=m))):=by simp[YT,Pr]
@[simp]theorem f1U{m n:ByteArray}:YT .eql (.string m) (.string n)=some (.bool (decide (m=n))):=by rw[<-d9H];rfl
@[simp]theorem f2U{m n:ByteArray}:YT .neq (.string m) (.string n)=some (.bool !(decide (m=n))):=by rw[<-d9H];rfl
@[simp]theorem f3U{m n:ByteArray}:YT .lss (.string m) (.string n)=some (.bool (Uu m n)):=rfl
@[simp]theorem f4U{m n:ByteArray}:YT .leq (.string m) (.string n)=some (.bool (Uu m n||decide (m=n))):=by rw[<-d9H];rfl
@[simp]theorem f5U{m n:ByteArray}:YT .gtr (.string m) (.string n)=some (.bool !(Uu m n||decide (m=n))):=by rw[<-d9H];rfl
@[simp]theorem g9Q{b:Bool}:unV .not (.bool b)=some (.bool (!b)):=rfl
@[simp]theorem g0R{n:Int}:unV .neg (.int .i64 n)=some (.int .i64 (IntKind.i64.wrap (0-n))):=rfl
@[simp]theorem g2p{d:Nat}:s.bound d none=some (d:Int):=rfl
def AV.int?:AV->Option Int
 | .iv (.v (.int _ n))=>some n
 | _=>none
@[simp]theorem int?_i{k:IntKind}{n:Int}:AV.int? (.iv (.v (.int k n)))=some n:=rfl
@[simp]theorem g3p{d:Nat}{x:Operand}:s.bound d (some x)=(s.ev x).int?:=by
 simp only[St.bound]
 cases s.ev x with
 |iv x=>cases x with
  |v u=>cases u<;>rfl
  | _=>rfl
 | _=>rfl
@[simp]theorem g1R{t:Nat}:s.ev (.tmp t)=s.get t:=rfl
@[simp]theorem h6d{b:Bool}:s.ev (.const (.bool b))= .iv (.v (.bool b)):=rfl
@[simp]theorem h7d{k:IntKind}{n:Int}:s.ev (.const (.int k n))= .iv (.v (.int k n)):=rfl
@[simp]theorem h8d{t:ByteArray}:s.ev (.const (.string t))= .iv (.v (.string t)):=rfl
@[simp]theorem h9d{f:FuncId}:s.ev (.func f)= .fn f [] []:=rfl
@[simp]theorem f6U{xs:List (List IV)}:s.elems (.iv (.Z6 sz xs))=some (sz,xs):=rfl
@[simp]theorem d0I:s.elems (.nil sz)=some (sz,[]):=rfl
@[simp]theorem f7U:s.elems (.sl id sz lo len)=((look s.hp id).bind Ob.TQ).map fun p=>(sz,(p.2.drop lo).take len):=by
 simp only[St.elems]
 cases look s.hp id with
 |none=>rfl
 |some o=>cases h:o.TQ<;>simp[h]
@[simp]theorem f8U{xs:List (List IV)}:Ob.TQ (.list sz xs)=some (sz,xs):=rfl
@[simp]theorem f9U{xs:List (List IV)}:Ob.TQ (.YN id sz xs)=some (sz,xs):=rfl
@[simp]theorem d1I{z:Nat}{xs ys:List (List IV)}:Ob.Xn (.list z ys) sz xs= .list sz xs:=rfl
@[simp]theorem d2I{z:Nat}{xs ys:List (List IV)}:Ob.Xn (.YN id z ys) sz xs= .YN id sz xs:=rfl
@[simp]theorem f0V{xs:List (List IV)}:Ob.org? (.list sz xs)=none:=rfl
@[simp]theorem f1V{xs:List (List IV)}:Ob.org? (.YN id sz xs)=some id:=rfl
def moH(id:Nat):Option Ob->Option Mo
 |some (.YA sk sz g hole)=>some (id,sk,sz,g,hole)
 | _=>none
def maH:Option Ob->Option (Sk×(List Value->Option (List IV)))
 |some (.map sk g)=>some (sk,g)
 |some (.WE sk g _ _)=>some (sk,g)
 | _=>none
@[simp]theorem f2V{sk g hole}:moH id (some (.YA sk sz g hole))=some (id,sk,sz,g,hole):=rfl
@[simp]theorem g4p{sk g}:moH id (some (.map sk g))=none:=rfl
@[simp]theorem f3V{sk g n k}:moH id (some (.WE sk g n k))=none:=rfl
@[simp]theorem g5p{sk g}:maH (some (.map sk g))=some (sk,g):=rfl
@[simp]theorem f4V{sk g n k}:maH (some (.WE sk g n k))=some (sk,g):=rfl
@[simp]theorem d3I:s.mapOf (.mpr id)=maH (look s.hp id):=rfl
@[simp]theorem f5V{sk g}:s.mapOf (.iv (.mp sk g))=some (sk,g):=rfl
@[simp]theorem f6V:s.Qw (.mpr id)=moH id (look s.hp id):=rfl
@[simp]theorem g6p:s.Qw (.iv x)=none:=rfl
@[simp]theorem g2R:AV.ids (.iv x)=[]:=rfl
@[simp]theorem g7p:AV.ids (.nil sz)=[]:=rfl
@[simp]theorem g3R:AV.ids .un=[]:=rfl
@[simp]theorem g8p:AV.ids (.ptr id off)=[]:=rfl
@[simp]theorem g4R:AV.ids (.fn f a b)=[]:=rfl
@[simp]theorem g5R:AV.ids (.sl id sz lo len)=[id]:=rfl
@[simp]theorem g9p:AV.ids (.mpr id)=[id]:=rfl
@[simp]theorem g0q:s.YX []=s:=rfl
@[simp]theorem g6R{l:List AV}:s.YX (.iv x::l)=s.YX l:=rfl
@[simp]theorem g7R{l:List AV}:s.YX (.nil sz::l)=s.YX l:=rfl
@[simp]theorem g1q{l:List AV}:s.YX (.ptr id off::l)=s.YX l:=rfl
@[simp]theorem g8R{l:List AV}:s.YX (.fn f a b::l)=s.YX l:=rfl
@[simp]theorem g9R{l:List AV}:s.YX (.sl id sz lo len::l)=(if id<1000 then s.drop id else s).YX l:=rfl
@[simp]theorem g2q{l:List AV}:s.YX (.mpr id::l)=(if id<1000 then s.drop id else s).YX l:=rfl
@[simp]theorem g3q{l:List IV}{r:List AV}:s.YX (.agg (l.map .iv)::r)=s.YX r:=by
 have:AV.ids (.agg (l.map .iv))=[]:=by
  simp only[AV.ids]
  induction l with
  |nil=>rfl
  |cons x l ih=>simp[ih]
 simp[St.YX,this]
@[simp]theorem d4I{r:List AV}:s.YX (.agg []::r)=s.YX r:=rfl
@[simp]theorem d5I{l r:List AV}:s.YX (.agg (.iv x::l)::r)=s.YX (.agg l::r):=rfl
@[simp]theorem d6I{l r:List AV}:s.YX (.agg (.nil sz::l)::r)=s.YX (.agg l::r):=rfl
@[simp]theorem d7I{l r:List AV}:s.YX (.agg (.fn f a b::l)::r)=s.YX (.agg l::r):=rfl
@[simp]theorem d8I{l r:List AV}:s.YX (.agg (.sl id sz lo len::l)::r)=(if id<1000 then s.drop id else s).YX (.agg l::r):=rfl
@[simp]theorem g0S{α:Type}{k:Nat}:look ([]:List (Nat×α)) k=none:=rfl
@[simp]theorem g1S{α:Type}{j k:Nat}{y:α}{r:List (Nat×α)}:look ((j,y)::r) k=if j=k then some y else look r k:=rfl
@[simp]theorem d9I{z:List AV}:DB s z []=some z:=rfl
@[simp]theorem f7V:Ru s sz []=some []:=rfl
@[simp]theorem h0e{mx:Bool}{k:IntKind}{n:Int}{r:List AV}:c5S mx (.iv (.v (.int k n))::r)=CH mx k n r:=rfl
@[simp]theorem g4q{mx:Bool}{k:IntKind}{n:Int}:CH mx k n []=some (k,n):=rfl
@[simp]theorem h6b{mx:Bool}{k j:IntKind}{n m:Int}{r:List AV}:CH mx k n (.iv (.v (.int j m))::r)=CH mx k (if mx then max n m else min n m) r:=rfl
@[simp]theorem f8V{p:Nat->Bool}:AV.kc p (.iv x)= .iv x:=rfl
@[simp]theorem g2S{p:Nat->Bool}:AV.kc p (.nil sz)= .nil sz:=rfl
@[simp]theorem h7b{p:Nat->Bool}:AV.kc p .un= .un:=rfl
@[simp]theorem g5q{p:Nat->Bool}:AV.kc p .junk= .junk:=rfl
@[simp]theorem g3S{p:Nat->Bool}:AV.kc p (.ptr id off)=if p id then .junk else .ptr id off:=rfl
@[simp]theorem h8b{p:Nat->Bool}:AV.kc p (.sl id sz lo len)=if p id then .junk else .sl id sz lo len:=rfl
@[simp]theorem h9b{p:Nat->Bool}:AV.kc p (.ep id sz i off)=if p id then .junk else .ep id sz i off:=rfl
@[simp]theorem g4S{p:Nat->Bool}:AV.kc p (.mpr id)=if p id then .junk else .mpr id:=rfl
@[simp]theorem h0c{p:Nat->Bool}:AV.kc p (.fn f a b)=if a.any (Z3.of p)||b.any (Z3.of p)then .junk else .fn f a b:=rfl
@[simp]theorem g6q{p:Nat->Bool}:AV.kc p (.agg cs)= .junk:=rfl
@[simp]theorem g7q{p:Nat->Bool}:AV.kc p (.Zp cs)= .junk:=rfl
@[simp]theorem g8q{p:Nat->Bool}:Z3.of p (.ptr id off)=p id:=rfl
@[simp]theorem g9q{p:Nat->Bool}:Z3.of p (.val x)=false:=rfl
@[simp]theorem g0r{g:AV->AV}:AV.ZS g (.iv x)=g (.iv x):=rfl
@[simp]theorem g1r{g:AV->AV}:AV.ZS g (.nil sz)=g (.nil sz):=rfl
@[simp]theorem g2r{g:AV->AV}:AV.ZS g .un=g .un:=rfl
@[simp]theorem d0J{g:AV->AV}:AV.ZS g .junk=g .junk:=rfl
@[simp]theorem f9V{g:AV->AV}:AV.ZS g (.ptr id off)=g (.ptr id off):=rfl
@[simp]theorem g3r{g:AV->AV}:AV.ZS g (.sl id sz lo len)=g (.sl id sz lo len):=rfl
@[simp]theorem g4r{g:AV->AV}:AV.ZS g (.ep id sz i off)=g (.ep id sz i off):=rfl
@[simp]theorem f0W{g:AV->AV}:AV.ZS g (.mpr id)=g (.mpr id):=rfl
@[simp]theorem g5r{g:AV->AV}:AV.ZS g (.fn f a b)=g (.fn f a b):=rfl
@[simp]theorem f1W{g:AV->AV}:AV.ZS g (.agg cs)= .agg (cs.map g):=rfl
@[simp]theorem f2W{g:AV->AV}:AV.ZS g (.Zp cs)= .Zp (cs.map (AV.Il g)):=rfl
@[simp]theorem g6r{g:AV->AV}:AV.Il g (.iv x)=g (.iv x):=rfl
@[simp]theorem f3W{g:AV->AV}:AV.Il g (.agg cs)= .agg (cs.map g):=rfl
@[simp]theorem d1J{g:AV->AV}:Ob.ZS g (.box cs)= .box (cs.map g):=rfl
@[simp]theorem d2J{g:AV->AV}{xs:List (List IV)}:Ob.ZS g (.list sz xs)= .list sz xs:=rfl
@[simp]theorem d3J{g:AV->AV}{xs:List (List IV)}:Ob.ZS g (.YN id sz xs)= .YN id sz xs:=rfl
@[simp]theorem d4J{g:AV->AV}{sk h}:Ob.ZS g (.map sk h)= .map sk h:=rfl
@[simp]theorem d5J{g:AV->AV}{sk h n k}:Ob.ZS g (.WE sk h n k)= .WE sk h n k:=rfl
@[simp]theorem d6J{g:AV->AV}{sk h k}:Ob.ZS g (.YA sk sz h k)= .YA sk sz h k:=rfl
@[simp]theorem d7J{g:AV->AV}{sk h l k}:Ob.ZS g (.iter sk h l k)= .iter sk h l k:=rfl
end
def gone(id:Nat)(o:Ob)(x:AV):AV:=(x.fc id o).kc (· ==id)
def DU(off:Nat):Option (List IV)->AV
 |some l=> .iv (.pt (l.drop off))
 |none=> .junk
def Nc(id:Nat)(o:Ob):List (Nat×AV)->List (Nat×AV)
 | []=>[]
 |(t,x)::r=>(t,x.ZS (gone id o))::Nc id o r
def Qt(id:Nat)(o:Ob):Hp->Hp
 | []=>[]
 |(j,q)::r=>if j=id then Qt id o r else(j,q.ZS (gone id o))::Qt id o r
def I0(id:Nat)(fr:List (Nat×AV))(hp:Hp):Option Ob->St
 |none=>⟨fr,hp⟩
 |some o=>⟨Nc id o fr,Qt id o hp⟩
section
variable{id:Nat}{o:Ob}
@[simp]theorem g7r{off:Nat}{l:List IV}:DU off (some l)= .iv (.pt (l.drop off)):=rfl
@[simp]theorem g8r{off:Nat}:DU off none= .junk:=rfl
@[simp]theorem f4W:Nc id o []=[]:=rfl
@[simp]theorem d8J{t:Nat}{x:AV}{r:List (Nat×AV)}:Nc id o ((t,x)::r)=(t,x.ZS (gone id o))::Nc id o r:=rfl
@[simp]theorem f5W:Qt id o []=[]:=rfl
@[simp]theorem d9J{j:Nat}{q:Ob}{r:Hp}:Qt id o ((j,q)::r)=if j=id then Qt id o r else(j,q.ZS (gone id o))::Qt id o r:=rfl
@[simp]theorem g9r{fr:List (Nat×AV)}{hp:Hp}:I0 id fr hp none=⟨fr,hp⟩:=rfl
@[simp]theorem g0s{fr:List (Nat×AV)}{hp:Hp}:I0 id fr hp (some o)=⟨Nc id o fr,Qt id o hp⟩:=rfl
theorem d0K(fr:List (Nat×AV)):Nc id o fr=fr.map fun(t,x)=>(t,x.ZS fun x=>(x.fc id o).kc (· ==id)):=by
 induction fr with
 |nil=>rfl
 |cons p r ih=>obtain⟨t,x⟩:=p;simp only[Nc,a0I,ih];rfl
theorem d1K(hp:Hp):Qt id o hp=(hp.map fun(t,x)=>(t,x.ZS fun x=>(x.fc id o).kc (· ==id))).filter (·.1 != id):=by
 induction hp with
 |nil=>rfl
 |cons p r ih=>
  obtain⟨t,x⟩:=p;simp only[Qt,a0I,b2p,ih]
  by_cases h:t=id
  ·simp[h]
  ·simp[h];rfl
@[simp]theorem drop_mk{fr:List (Nat×AV)}{hp:Hp}:St.drop id ⟨fr,hp⟩=I0 id fr hp (look hp id):=by
 simp only[St.drop]
 cases look hp id with
 |none=>rfl
 |some o=>simp only[I0,d0K,d1K];rfl
@[simp]theorem d2K{x:IV}:gone id o (.iv x)= .iv x:=rfl
@[simp]theorem f6W{sz:Nat}:gone id o (.nil sz)= .nil sz:=rfl
@[simp]theorem g1s:gone id o .un= .un:=rfl
@[simp]theorem d3K:gone id o .junk= .junk:=rfl
@[simp]theorem g2s{f:FuncId}{a b:List Z3}:gone id o (.fn f a b)=AV.kc (· ==id) (.fn f (a.map (Z3.fc id o)) (b.map (Z3.fc id o))):=rfl
@[simp]theorem d4K{x:IV}:Z3.fc id o (.val x)= .val x:=rfl
def f7v(j off:Nat):Option (List IV)->Z3
 |some l=> .val (.pt (l.drop off))
 |none=> .ptr j off
@[simp]theorem g5S{j off:Nat}{l:List IV}:f7v j off (some l)= .val (.pt (l.drop off)):=rfl
@[simp]theorem g6S{j off:Nat}:f7v j off none= .ptr j off:=rfl
@[simp]theorem d5K{cs:List AV}{j off:Nat}:Z3.fc id (.box cs) (.ptr j off)=if j=id then f7v j off (Sq cs)else .ptr j off:=by
 simp only[Z3.fc];split
 ·cases Sq cs<;>rfl
 ·rfl
@[simp]theorem d6K{cs:List AV}{j YH lo len:Nat}:gone id (.box cs) (.sl j YH lo len)=if j=id then .junk else .sl j YH lo len:=by
 by_cases h:j=id<;>simp[gone,AV.fc,h]
@[simp]theorem d7K{cs:List AV}{j YH i off:Nat}:gone id (.box cs) (.ep j YH i off)=if j=id then .junk else .ep j YH i off:=by
 by_cases h:j=id<;>simp[gone,AV.fc,h]
@[simp]theorem d8K{cs:List AV}{j:Nat}:gone id (.box cs) (.mpr j)=if j=id then .junk else .mpr j:=by
 by_cases h:j=id<;>simp[gone,AV.fc,h]
@[simp]theorem d9K{cs:List AV}{j off:Nat}:gone id (.box cs) (.ptr j off)=if j=id then DU off (Sq cs)else .ptr j off:=by
 by_cases h:j=id<;>simp[gone,AV.fc,h]
 cases Sq cs<;>simp
@[simp]theorem d0L{sz:Nat}{xs:List (List IV)}{j off:Nat}:Z3.fc id (.list sz xs) (.ptr j off)= .ptr j off:=by
 simp only[Z3.fc,ite_self]
@[simp]theorem d1L{sz:Nat}{xs:List (List IV)}{j YH lo len:Nat}:gone id (.list sz xs) (.sl j YH lo len)=if j=id then .iv (.Z6 YH ((xs.drop lo).take len))else .sl j YH lo len:=by
 by_cases h:j=id<;>simp[gone,AV.fc,h]
@[simp]theorem d2L{sz:Nat}{xs:List (List IV)}{j YH i off:Nat}:gone id (.list sz xs) (.ep j YH i off)=if j=id then .iv (.pt ((xs.getD i []).drop off))else .ep j YH i off:=by
 by_cases h:j=id<;>simp[gone,AV.fc,h]
@[simp]theorem d3L{sz:Nat}{xs:List (List IV)}{j:Nat}:gone id (.list sz xs) (.mpr j)=if j=id then .junk else .mpr j:=by
 by_cases h:j=id<;>simp[gone,AV.fc,h]
@[simp]theorem d4L{sz:Nat}{xs:List (List IV)}{j off:Nat}:gone id (.list sz xs) (.ptr j off)=if j=id then .junk else .ptr j off:=by
 by_cases h:j=id<;>simp[gone,AV.fc,h]
attribute [simp] d8z
@[simp]theorem d5L{Z:GZ}{vs:List Value}{cs:List AV}{j YH lo len:Nat}:gone id (.gh Z vs cs) (.sl j YH lo len)=if j=id then .junk else .sl j YH lo len:=by
 by_cases h:j=id<;>simp[gone,AV.fc,h]
@[simp]theorem d6L{Z:GZ}{vs:List Value}{cs:List AV}{j:Nat}:gone id (.gh Z vs cs) (.mpr j)=if j=id then .junk else .mpr j:=by
 by_cases h:j=id<;>simp[gone,AV.fc,h]
@[simp]theorem d7L{Z:GZ}{vs:List Value}{cs:List AV}{j off:Nat}:gone id (.gh Z vs cs) (.ptr j off)=if j=id then .junk else .ptr j off:=by
 by_cases h:j=id<;>simp[gone,AV.fc,h]
@[simp]theorem d8L{sk:Sk}{g:List Value->Option (List IV)}{j YH lo len:Nat}:gone id (.map sk g) (.sl j YH lo len)=if j=id then .junk else .sl j YH lo len:=by
 by_cases h:j=id<;>simp[gone,AV.fc,h]
@[simp]theorem d9L{sk:Sk}{g:List Value->Option (List IV)}{j:Nat}:gone id (.map sk g) (.mpr j)=if j=id then .iv (.mp sk g)else .mpr j:=by
 by_cases h:j=id<;>simp[gone,AV.fc,h]
@[simp]theorem d0M{sk:Sk}{g:List Value->Option (List IV)}{j off:Nat}:gone id (.map sk g) (.ptr j off)=if j=id then .junk else .ptr j off:=by
 by_cases h:j=id<;>simp[gone,AV.fc,h]
@[simp]theorem d1M{sk:Sk}{g:List Value->Option (List IV)}{left:List (List Value)}{last:Option (List Value)}{j:Nat}:gone id (.iter sk g left last) (.mpr j)=if j=id then .junk else .mpr j:=by
 by_cases h:j=id<;>simp[gone,AV.fc,h]
@[simp]theorem d2M{sk:Sk}{g:List Value->Option (List IV)}{left:List (List Value)}{last:Option (List Value)}{j off:Nat}:gone id (.iter sk g left last) (.ptr j off)=if j=id then .junk else .ptr j off:=by
 by_cases h:j=id<;>simp[gone,AV.fc,h]
end
section
variable{s:St}{id:Nat}{fr:List (Nat×AV)}{hp:Hp}
@[simp]theorem d3M{z:List AV}{off n:Nat}{x:Operand}{r:List (Nat×Nat×Operand)}:DB s z ((off,n,x)::r)=(s.ev x).cellsOf.bind fun cs=>if cs.length=n/\off+n<=z.length then DB s (YB z off cs) r else none:=by
 simp only[DB]
 cases (s.ev x).cellsOf<;>rfl
@[simp]theorem d4M{sz i:Nat}{x:Operand}{r:List (Nat×Operand)}:Ru s sz ((i,x)::r)=((s.ev x).cellsOf.bind fun cs=>Zg AV.iv? cs).bind fun c=>if c.length=sz then(Ru s sz r).map fun q=>c::q else none:=by
 simp only[Ru,Cx]
 cases ((s.ev x).cellsOf.bind fun cs=>Zg AV.iv? cs)<;>rfl
@[simp]theorem d5M{α:Type}{z cs:List α}{off:Nat}:YB z off cs=z.take off++cs++z.drop (off+cs.length):=rfl
@[simp]theorem g7S{o:Ob}:St.add ⟨fr,hp⟩ id o=⟨fr,(id,o)::hp⟩:=rfl
@[simp]theorem g3s{H:Hp}:St.join ⟨fr,hp⟩ H=⟨fr,H++hp⟩:=rfl
@[simp]theorem h1c{d:Nat}{x:AV}:St.put ⟨fr,hp⟩ (some d) x=⟨(d,x)::fr,hp⟩:=rfl
@[simp]theorem h2c{x:AV}:St.put ⟨fr,hp⟩ none x=⟨fr,hp⟩:=rfl
@[simp]theorem g4s{t:Nat}:St.get ⟨fr,hp⟩ t=(look fr t).getD .junk:=rfl
def nt(id:Nat):List (Nat×AV)->List (Nat×AV)
 | []=>[]
 |(t,x)::r=>(t,x.ZS (AV.kc (· ==id)))::nt id r
def loH(id:Nat):Hp->Hp
 | []=>[]
 |(t,x)::r=>(t,x.ZS (AV.kc (· ==id)))::loH id r
def qM(id:Nat):Hp->Hp
 | []=>[]
 |(t,x)::r=>if t=id then qM id r else(t,x.ZS (AV.kc (· ==id)))::qM id r
@[simp]theorem g5s:nt id []=[]:=rfl
@[simp]theorem f7W{t:Nat}{x:AV}{r:List (Nat×AV)}:nt id ((t,x)::r)=(t,x.ZS (AV.kc (· ==id)))::nt id r:=rfl
@[simp]theorem g6s:loH id []=[]:=rfl
@[simp]theorem f8W{t:Nat}{x:Ob}{r:Hp}:loH id ((t,x)::r)=(t,x.ZS (AV.kc (· ==id)))::loH id r:=rfl
@[simp]theorem g7s:qM id []=[]:=rfl
@[simp]theorem f9W{t:Nat}{x:Ob}{r:Hp}:qM id ((t,x)::r)=if t=id then qM id r else(t,x.ZS (AV.kc (· ==id)))::qM id r:=rfl
theorem d6M(fr:List (Nat×AV)):nt id fr=fr.map fun(t,x)=>(t,x.ZS (AV.kc (· ==id))):=by
 induction fr with
 |nil=>rfl
 |cons p r ih=>obtain⟨t,x⟩:=p;simp only[nt,a0I,ih]
theorem d7M(fr:Hp):loH id fr=fr.map fun(t,x)=>(t,x.ZS (AV.kc (· ==id))):=by
 induction fr with
 |nil=>rfl
 |cons p r ih=>obtain⟨t,x⟩:=p;simp only[loH,a0I,ih]
theorem d8M(fr:Hp):qM id fr=(fr.map fun(t,x)=>(t,x.ZS (AV.kc (· ==id)))).filter (·.1 != id):=by
 induction fr with
 |nil=>rfl
 |cons p r ih=>
  obtain⟨t,x⟩:=p;simp only[qM,a0I,b2p,ih]
  by_cases h:t=id<;>simp[h]
@[simp]theorem g8s:St.lone id ⟨fr,hp⟩=⟨nt id fr,loH id hp⟩:=by
 simp only[St.lone,St.ZS,d6M,d7M]
@[simp]theorem g9s:St.kill id ⟨fr,hp⟩=⟨nt id fr,qM id hp⟩:=by
 simp only[St.kill,St.ZS,d6M,d8M]
end
@[simp]theorem d9M{i:Nat}:SR i []=[]:=rfl
@[simp]theorem d0N{i:Nat}{x:AV}{r:List AV}:SR i (x::r)=(i,x)::SR (i+1) r:=rfl
def wL(sz lo len:Nat):Option Ob->Option IV
 |some (.list _ xs)=>some (.Z6 sz ((xs.drop lo).take len))
 |some (.ZI Zz xs none)=>some (.Z6 1 (((xs.map fun x=>[IV.Z6 Zz x]).drop lo).take len))
 | _=>none
def wM:Option Ob->Option IV
 |some (.map sk g)=>some (.mp sk g)
 |some (.YA sk sz g none)=>some (.mp sk fun k=>(g k).map fun xs=>[IV.Z6 sz xs])
 | _=>none
def wB(off:Nat)(f:List AV->Option (List IV)):Option Ob->Option IV
 |some (.box cs)=>(f cs).map fun l=> .pt (l.drop off)
 | _=>none
def IV.or(y:Option IV)(x:AV):AV:=match y with|some y=> .iv y|none=>x
def IV.orC(y:Option IV)(x:Z3):Z3:=match y with|some y=> .val y|none=>x
section
variable{s:St}{ids:List Nat}{d id sz lo len i off:Nat}{x:IV}{cs:List AV}{f:FuncId}{a b:List Z3}{fr:Bool}
@[simp]theorem g0t{z:Nat}{xs:List (List IV)}:wL sz lo len (some (.list z xs))=some (.Z6 sz ((xs.drop lo).take len)):=rfl
@[simp]theorem f0X{z:Nat}{xs:List (List (List IV))}:wL sz lo len (some (.ZI z xs none))=some (.Z6 1 (((xs.map fun x=>[IV.Z6 z x]).drop lo).take len)):=rfl
@[simp]theorem g8S{sk g}:wM (some (.map sk g))=some (.mp sk g):=rfl
@[simp]theorem g1t{sk g}:wM (some (.YA sk sz g none))=some (.mp sk fun k=>(g k).map fun xs=>[IV.Z6 sz xs]):=rfl
@[simp]theorem g9S{g:List AV->Option (List IV)}:wB off g (some (.box cs))=(g cs).map fun l=> .pt (l.drop off):=rfl
@[simp]theorem h1e{y:IV}{x:AV}:IV.or (some y) x= .iv y:=rfl
@[simp]theorem h2e{x:AV}:IV.or none x=x:=rfl
@[simp]theorem h3c{y:IV}{x:Z3}:IV.orC (some y) x= .val y:=rfl
@[simp]theorem h4c{x:Z3}:IV.orC none x=x:=rfl
@[simp]theorem g0T:s.Wk ids d (.iv x)=some x:=by cases d<;>rfl
@[simp]theorem g2t:s.Wk ids d (.nil sz)=some (.Z6 sz []):=by cases d<;>rfl
@[simp]theorem g1T:s.Wk ids d (.sl id sz lo len)=if ids.contains id then none else wL sz lo len (look s.hp id):=by cases d<;>rfl
@[simp]theorem g3t:s.Wk ids d (.mpr id)=if ids.contains id then none else wM (look s.hp id):=by cases d<;>rfl
@[simp]theorem f1X:s.Wk ids 3 (.ptr id off)=if ids.contains id then none else wB off (fun cs=>Zg (s.Wk ids 2) cs) (look s.hp id):=rfl
@[simp]theorem f2X:s.Wk ids 2 (.ptr id off)=if ids.contains id then none else wB off (fun cs=>Zg (s.Wk ids 1) cs) (look s.hp id):=rfl
@[simp]theorem f3X:s.Wk ids 1 (.ptr id off)=if ids.contains id then none else wB off (fun cs=>Zg (s.Wk ids 0) cs) (look s.hp id):=rfl
@[simp]theorem d1N:Zg (s.Wk ids d) (.iv x::cs)=(Zg (s.Wk ids d) cs).map fun l=>x::l:=by simp[Zg]
@[simp]theorem d2N:Zg (s.Wk ids d) (.sl id sz lo len::cs)=(s.Wk ids d (.sl id sz lo len)).bind fun y=>(Zg (s.Wk ids d) cs).map fun l=>y::l:=by
 simp only[Zg];cases s.Wk ids d (.sl id sz lo len)<;>rfl
@[simp]theorem d3N:Zg (s.Wk ids d) (.mpr id::cs)=(s.Wk ids d (.mpr id)).bind fun y=>(Zg (s.Wk ids d) cs).map fun l=>y::l:=by
 simp only[Zg];cases s.Wk ids d (.mpr id)<;>rfl
@[simp]theorem d4N:Zg (s.Wk ids d) (.ptr id off::cs)=(s.Wk ids d (.ptr id off)).bind fun y=>(Zg (s.Wk ids d) cs).map fun l=>y::l:=by
 simp only[Zg];cases s.Wk ids d (.ptr id off)<;>rfl
@[simp]theorem d5N{l:List IV}:Zg (s.Wk ids d) (l.map .iv)=some l:=by
 induction l with
 |nil=>rfl
 |cons x l ih=>simp[ih]
@[simp]theorem g4t:Z3.C4 s ids (.ptr id off)=IV.orC (s.Wk ids 3 (.ptr id off)) (.ptr id off):=by
 simp only[Z3.C4];cases s.Wk ids 3 (.ptr id off)<;>rfl
@[simp]theorem g5t:Z3.C4 s ids (.val x)= .val x:=rfl
@[simp]theorem d6N:Z3.WM ids (.ptr id off)=ids.contains id:=rfl
@[simp]theorem d7N:Z3.WM ids (.val x)=true:=rfl
@[simp]theorem d8N:AV.WM ids (.iv x)=true:=rfl
@[simp]theorem g6t:AV.WM ids (.nil sz)=true:=rfl
@[simp]theorem g2T:AV.WM ids (.sl id sz lo len)=ids.contains id:=rfl
@[simp]theorem g7t:AV.WM ids (.ptr id off)=ids.contains id:=rfl
@[simp]theorem g3T:AV.WM ids (.ep id sz i off)=ids.contains id:=rfl
@[simp]theorem g8t:AV.WM ids (.mpr id)=ids.contains id:=rfl
@[simp]theorem g4T:AV.WM ids (.fn f a b)=(a.all (Z3.WM ids)&&b.all (Z3.WM ids)):=rfl
@[simp]theorem f4X:AV.YO ids (.agg cs)=cs.all (AV.WM ids):=rfl
@[simp]theorem g9t:AV.YO ids (.iv x)=true:=rfl
@[simp]theorem f5X:AV.YO ids (.nil sz)=true:=rfl
@[simp]theorem g0u:AV.YO ids (.sl id sz lo len)=ids.contains id:=rfl
@[simp]theorem f6X:AV.YO ids (.ptr id off)=ids.contains id:=rfl
@[simp]theorem f7X:AV.YO ids (.mpr id)=ids.contains id:=rfl
@[simp]theorem g1u:AV.YO ids (.fn f a b)=(a.all (Z3.WM ids)&&b.all (Z3.WM ids)):=rfl
@[simp]theorem g2u:s.arg1 fr ids (.iv x)= .iv x:=rfl
@[simp]theorem f8X:s.arg1 fr ids (.nil sz)= .iv (.Z6 sz []):=rfl
@[simp]theorem g3u:s.arg1 fr ids (.fn f a b)=if fr&& !((AV.fn f a b).WM ids)then .fn f (a.map (Z3.C4 s ids)) (b.map (Z3.C4 s ids))else .fn f a b:=rfl
@[simp]theorem g4u:s.arg1 fr ids (.sl id sz lo len)=if fr&& !(ids.contains id)then IV.or (s.Wk ids 3 (.sl id sz lo len)) (.sl id sz lo len)else .sl id sz lo len:=rfl
@[simp]theorem f9X:s.arg1 fr ids (.mpr id)=if fr&& !(ids.contains id)then IV.or (s.Wk ids 3 (.mpr id)) (.mpr id)else .mpr id:=rfl
@[simp]theorem f0Y:s.arg1 fr ids (.ptr id off)=if fr&& !(ids.contains id)then IV.or (s.Wk ids 3 (.ptr id off)) (.ptr id off)else .ptr id off:=rfl
@[simp]theorem g5T:s.arg fr ids (.iv x)= .iv x:=rfl
@[simp]theorem g5u:s.arg fr ids (.nil sz)= .iv (.Z6 sz []):=rfl
@[simp]theorem g6T:s.arg fr ids (.fn f a b)=s.arg1 fr ids (.fn f a b):=rfl
@[simp]theorem g7T:s.arg fr ids (.sl id sz lo len)=s.arg1 fr ids (.sl id sz lo len):=rfl
@[simp]theorem g6u:s.arg fr ids (.mpr id)=s.arg1 fr ids (.mpr id):=rfl
@[simp]theorem g7u:s.arg fr ids (.ptr id off)=s.arg1 fr ids (.ptr id off):=rfl
@[simp]theorem g8u:s.arg fr ids (.agg cs)= .agg (cs.map (s.arg1 fr ids)):=rfl
@[simp]theorem g8T{pre:List Z3}{ops:List Operand}{post:List Z3}:s.args pre ops post=pre.map Z3.av++ops.map s.ev++post.map Z3.av:=rfl
end
@[simp]theorem d9N{id:Nat}{o:Ob}{l:List IV}:(l.map AV.iv).map (gone id o)=l.map AV.iv:=by
 induction l with
 |nil=>rfl
 |cons x l ih=>rw[a0I,a0I,ih,d2K]
@[simp]theorem d0O{p:Nat->Bool}{l:List IV}:(l.map AV.iv).map (AV.kc p)=l.map AV.iv:=by
 induction l with
 |nil=>rfl
 |cons x l ih=>rw[a0I,a0I,ih,f8V]
@[simp]theorem d1O{ids:List Nat}{l:List IV}:(l.map AV.iv).all (AV.WM ids)=true:=by
 induction l with
 |nil=>rfl
 |cons x l ih=>rw[a0I,b0w,ih,d8N];rfl
@[simp]theorem d2O{l:List IV}:(l.map AV.iv).all AV.one=true:=by
 induction l with
 |nil=>rfl
 |cons x l ih=>rw[a0I,b0w,ih,d8F];rfl
attribute [simp ↓] d0E d2E d3E d4E d5E d7E d8E d9E
attribute [simp] St.lit St.pure1 St.pure St.ivOf at2 vtrue
@[simp]theorem a5H{α:Type}(l:List α)(i:Nat)(x:α):(l.getD i x)=(l[i]?).getD x:=rfl
theorem a6H{f:AV->AV}{s:St}{t:Nat}{x:IV}(hf:∀x,f (.iv x)= .iv x)(h:s.get t= .iv x):(s.ZS f).get t= .iv x:=by
 simp only[St.get,St.ZS]at h⊢;rw[c2E (AV.ZS f)]
 cases hl:look s.fr t with
 |none=>rw[hl]at h;cases h
 |some y=>rw[hl]at h;simp only[a1J]at h;subst h;simp[AV.ZS,hf]
theorem a7H{s:St}{t id:Nat}{x:IV}(h:s.get t= .iv x):(s.drop id).get t= .iv x:=by
 unfold St.drop;split
 ·exact h
 ·rename_i o _;exact a6H (f:=fun x=>(x.fc id o).kc (· ==id)) (fun _=>rfl) h
theorem mG(D:List Nat):∀{s:St} {t:Nat} {x:IV},s.get t= .iv x->(s.ZR D).get t= .iv x:=by
 induction D with
 |nil=>intro s t x h;exact h
 |cons i D ih=>intro s t x h;exact ih (a7H h)
theorem a9H{s:St}{id k:Nat}(h:look s.hp k=none):look (s.drop id).hp k=none:=by
 unfold St.drop;split
 ·exact h
 ·simp only[G0,GQ,h,Option.map_none];split<;>rfl
theorem CF(D:List Nat):∀{s:St} {k:Nat},(k∈D\/look s.hp k=none)->look (s.ZR D).hp k=none:=by
 induction D with
 |nil=>
  intro s k h;rcases h with h|h; ·cases h
  ·exact h
 |cons i D ih=>
  intro s k h;refine ih (s:=s.drop i) ?_
  rcases h with h|h
  ·rcases a5E.1 h with rfl|h
   ·exact .inr (LI s k)
   ·exact .inl h
  ·exact .inr (a9H h)
theorem a1I{t:Nat}{x:IV}{s:St}(h:s.get t= .iv x)(hf:x.flat=true)(hb:(s.hp.map (·.1)).all (· <1000)=true):Ends true [.tmp t] (.iv x) [] s:=by
 refine⟨s.ZR (s.hp.map (·.1)),[.iv x],Sg _ hb s,?_,rfl,fun id=>?_,fun _=>⟨hf,fun _ _ h=>by cases h⟩⟩
 ·simp[VN,mG _ h]
 ·refine CF _ ?_
  cases hl:look s.hp id with
  |none=>exact .inr rfl
  |some o=>exact .inl (a6M.1 (CD hl))
theorem ZN{P:Program}{d:Nat}{f:FuncId}{ops:List Operand}{s:St}{K:St->AV->Prop}{args:List AV}{res:AV}(h:ZX P true f args [] res [])
 (ha:(((s.drop d).args [] ops []).map ((s.drop d).arg true []))=args) (hr:args.all (AV.YO [])=true) (hk:K (s.drop d) res):MP P d f [] ops [] none s K:=by
 refine oR ⟨s,Le.refl s,true,[],res,[],s.drop d,rfl,trivial,{spec:=?_,refs:=?_,sub:=fun _ _ h=>?_,own:=fun _ _ h=>?_,keep:=fun _ _ h=>?_,new:=fun _ _ h=>?_},hk⟩
 all_goals first|(rw[a9U,ha];assumption)|cases h
def LC:Hp->Bool
 | []=>true
 |(i,_)::r=>decide (i<1000)&&LC r
@[simp]theorem a4I:LC []=true:=rfl
@[simp]theorem a5I{i:Nat}{o:Ob}{r:Hp}:LC ((i,o)::r)=(decide (i<1000)&&LC r):=rfl
theorem Dx:∀{h:Hp},LC h=true->(h.map (·.1)).all (· <1000)=true
 | [],_=>rfl
 |(i,_)::r,h=>by
  simp only[LC,a3C]at h;simp only[a0I,b0w,a3C];exact⟨h.1,Dx h.2⟩
def GO:Hp->List Nat->Bool
 | [],_=>true
 |(i,_)::r,ks=>ks.contains i&&GO r ks
@[simp]theorem a8I{ks:List Nat}:GO [] ks=true:=rfl
@[simp]theorem a9I{i:Nat}{o:Ob}{r:Hp}{ks:List Nat}:GO ((i,o)::r) ks=(ks.contains i&&GO r ks):=rfl
theorem a0J:∀{h l:Hp},GO h (l.map (·.1))=true->d2p h l=true
 | [],_,_=>rfl
 |(i,_)::r,l,h=>by
  simp only[GO,a3C]at h;have h2:=a0J h.2;unfold d2p at h2⊢;simp only[b0w,a3C];refine⟨?_,h2⟩;have:=a6M.1 h.1;obtain⟨q,hq,e⟩:=a0E.1 this;exact b9G.2 ⟨q,hq,by simp[e]⟩
def IP:Hp->List Nat
 | []=>[]
 |(i,_)::r=>i::IP r
@[simp]theorem a2J:IP []=[]:=rfl
@[simp]theorem a3J{i:Nat}{o:Ob}{r:Hp}:IP ((i,o)::r)=i::IP r:=rfl
theorem a4J(h:Hp):IP h=h.map (·.1):=by
 induction h with
 |nil=>rfl
 |cons p r ih=>obtain⟨i,o⟩:=p;simp[ih]
def End1(t:Nat)(x:IV)(s:St):Prop:=s.get t= .iv x/\LC s.hp=true
def End2(t u:Nat)(x y:IV)(s:St):Prop:=s.get t= .iv x/\s.get u= .iv y/\LC s.hp=true
def outs(r:St->Prop):Yr:=⟨r,fun _ _=>False,r,fun _ _=>False⟩
theorem M7{P:Program}{n:Nat}{c:Z9}{s:St}{r r':St->Prop}(h:VC P n c s (outs r))(hr:∀s,r s->r' s):VC P n c s (outs r'):=
 h.mono hr (fun _ _ h=>h) hr (fun _ _ h=>h)
theorem YG{P:Program}{f:FuncId}{args:List AV}{x:IV}{n t:Nat}{c:Z9}(hf:ZG P f=some (n,c,[.tmp t]))
 (YZ:args.length<=n) (hn:n<=999) (hx:x.flat=true) (h:X7 P c ⟨SR 0 args,[]⟩ ⟨End1 t x,fun _ _=>False,End1 t x,fun _ _=>False⟩):ZX P true f args [] (.iv x) []:=
 IN hf YZ rfl rfl (M7 (Tj hn _ _ _ h) fun _ h=>a1I h.1 hx (Dx h.2))
def LeTo(D:List Nat)(s s':St):Prop:=D.all (· <1000)=true/\MO (s.ZR D) s'.fr/\RJ (s.ZR D).hp s'.hp/\GO (s.ZR D).hp (IP s'.hp)=true
theorem LeTo.le{D:List Nat}{s s':St}(h:LeTo D s s'):Le s s':=f5M D h.1 h.2.1 h.2.2.1 (a0J (by rw[<-a4J];exact h.2.2.2))
theorem HZ{P:Program}{c:Z9}{s:St}{O:Yr}(I:Nat->St->Prop)(hi:∃k s',Le s s'/\I k s')
 (hs:∀k s',I k s'->X7 P c s' {O with n:=fun s2=>∃m s3,m<k/\Le s2 s3/\I m s3}):HY P c s O:=⟨I,by obtain⟨k,s',h1,h2⟩:=hi;exact h1.x ⟨k,h2⟩,hs⟩
theorem a8J{P:Program}{c:Z9}{s:St}{O:Yr}(I:Nat->St->Prop)(hi:HX s fun s'=>∃k,I k s')
 (hs:∀k s',I k s'->X7 P c s' {O with n:=fun s2=>∃m s3,m<k/\Le s2 s3/\I m s3}):HY P c s O:=⟨I,hi,hs⟩
theorem YJ{P:Program}{c:Z9}{s:St}{O:Yr}(D D':List Nat)(n:Nat)(S:Nat->St)(Q:Nat->Prop)(h0:LeTo D s (S 0))(q0:Q 0)
 (hs:∀i,i<=n->Q i->X7 P c (S i) {O with n:=fun s2=>i<n/\LeTo D' s2 (S (i+1))/\Q (i+1)}):HY P c s O:=by
 refine⟨fun k s=>∃i,i<=n/\k=n-i/\s=S i/\Q i,h0.le.x ⟨_,0,c0t _,rfl,rfl,q0⟩,?_⟩;rintro k s' ⟨i,hi,rfl,rfl,hq⟩;refine CB c (O:={O with n:=fun s2=>i<n/\LeTo D' s2 (S (i+1))/\Q (i+1)}) (fun s2 h=>?_) (fun _ _ h=>h) (fun _ h=>h) (fun _ _ h=>h) (hs i hi hq);obtain⟨Z2,hle,Vz⟩:=h
 exact⟨_,_,by omega,hle.le,i+1,Z2,rfl,rfl,Vz⟩
@[simp]theorem a0K{s:St}:s.ZR []=s:=rfl
@[simp]theorem a1K{s:St}{i:Nat}{D:List Nat}:s.ZR (i::D)=(s.drop i).ZR D:=rfl
@[simp]theorem f6M{s:St}:MO s []↔True:=⟨fun h=>h,fun h=>h⟩
@[simp]theorem a2K{s:St}{t:Nat}{x:AV}{r:List (Nat×AV)}:MO s ((t,x)::r)↔s.get t=x/\MO s r:=⟨fun h=>h,fun h=>h⟩
@[simp]theorem f7M{H:Hp}:RJ H []↔True:=⟨fun h=>h,fun h=>h⟩
@[simp]theorem a3K{H:Hp}{t:Nat}{x:Ob}{r:Hp}:RJ H ((t,x)::r)↔look H t=some x/\RJ H r:=⟨fun h=>h,fun h=>h⟩
attribute [simp] End1 End2 LeTo
/-! ### Functions and calls that change what they are g4v-/
def Z3.hi:Z3->Bool
 | .ptr id _=>decide (1000<=id)
 | .val _=>true
def AV.hi:AV->Bool
 | .iv _| .nil _| .un| .junk=>true
 | .sl id _ _ _| .ptr id _| .ep id _ _ _| .mpr id=>decide (1000<=id)
 | .fn _ a b=>a.all Z3.hi&&b.all Z3.hi
 | .agg _| .Zp _=>false
def Ob.hi:Ob->Bool
 | .box cs=>cs.all AV.hi
 | .gh _ _ cs=>cs.all AV.hi
 | _=>true
@[simp]theorem g5v{Z:GZ}{vs:List Value}{cs:List AV}:Ob.hi (.gh Z vs cs)=cs.all AV.hi:=rfl
@[simp]theorem g2W{x:IV}:AV.hi (.iv x)=true:=rfl
@[simp]theorem g6v{sz:Nat}:AV.hi (.nil sz)=true:=rfl
@[simp]theorem g7v{id off:Nat}:AV.hi (.ptr id off)=decide (1000<=id):=rfl
@[simp]theorem g8v{id:Nat}:AV.hi (.mpr id)=decide (1000<=id):=rfl
@[simp]theorem g3W{id sz lo len:Nat}:AV.hi (.sl id sz lo len)=decide (1000<=id):=rfl
@[simp]theorem g7a{cs:List AV}:Ob.hi (.box cs)=cs.all AV.hi:=rfl
@[simp]theorem f8M{sz:Nat}{xs:List (List IV)}:Ob.hi (.list sz xs)=true:=rfl
@[simp]theorem g8a{sk g}:Ob.hi (.map sk g)=true:=rfl
@[simp]theorem f9M{sk sz g h}:Ob.hi (.YA sk sz g h)=true:=rfl
theorem a4K{id:Nat}{o:Ob}(Vi:id<1000){a:List Z3}(h:a.all Z3.hi=true):a.map (Z3.fc id o)=a/\a.any (Z3.of (· ==id))=false:=by
 induction a with
 |nil=>exact⟨rfl,rfl⟩
 |cons c a ih=>
  simp only[b0w,a3C]at h;obtain⟨i1,i2⟩:=ih h.2
  cases c with
  |ptr j off=>
   have hj:j≠id:=by have:=of_decide_eq_true h.1;omega
   refine⟨?_,?_⟩
   ·simp only[a0I,i1,Z3.fc,if_neg hj]
   ·simp only[c9B,i2,Z3.of,c7R,beq_eq_false_iff_ne];exact hj
  |val x=>exact⟨by simp only[a0I,i1,Z3.fc],by simp only[c9B,i2,Z3.of,c7R]⟩
theorem a5K{id:Nat}{o:Ob}(Vi:id<1000){x:AV}(h:x.hi=true):gone id o x=x:=by
 cases x with
 |agg _=>cases h
 |Zp _=>cases h
 |fn f a b=>
  simp only[AV.hi,a3C]at h;obtain⟨a1,a2⟩:=a4K (o:=o) Vi h.1;obtain⟨b1,b2⟩:=a4K (o:=o) Vi h.2;simp only[gone,AV.fc,a1,b1,AV.kc,a2,b2,c7R,Bool.false_eq_true,if_false]
 |iv _=>rfl
 |nil _=>rfl
 |un=>rfl
 |junk=>rfl
 | _=>
  have hj:=of_decide_eq_true h;simp only[gone,AV.fc,AV.kc];rw[if_neg (by omega)];simp only[AV.kc];rw[if_neg (by simp only[beq_iff_eq];omega)]
theorem a6K{id:Nat}{o q:Ob}(Vi:id<1000)(h:q.hi=true):q.ZS (gone id o)=q:=by
 cases q with
 |box cs=>
  simp only[Ob.hi,a8C]at h;simp only[Ob.ZS]
  congr 1
  exact b5n (fun x hx=>a5K Vi (h x hx)) |>.trans (c7N _)
 |gh Z vs cs=>
  simp only[Ob.hi,a8C]at h;simp only[Ob.ZS]
  congr 1
  refine(b5n fun x hx=>?_).trans (c7N _);have Vq:=h x hx
  have:AV.ZS (gone id o) x=gone id o x:=by cases x<;>first|rfl|cases Vq
  rw[this];exact a5K Vi Vq
 | _=>rfl
theorem a7K{s:St}{id k:Nat}{q:Ob}(Vi:id<1000)(hk:1000<=k)(hq:q.hi=true)(h:look s.hp k=some q):look (s.drop id).hp k=some q:=by
 unfold St.drop;split
 ·exact h
 ·simp only[G0,GQ,h,a8H];rw[if_neg (by omega)];exact congrArg some (a6K Vi hq)
theorem a8K(D:List Nat)(hD:D.all (· <1000)=true):∀{s:St} {k:Nat} {q:Ob},1000<=k->q.hi=true->look s.hp k=some q->look (s.ZR D).hp k=some q:=by
 induction D with
 |nil=>intro s k q _ _ h;exact h
 |cons i D ih=>
  intro s k q hk hq h;simp only[b0w,a3C,decide_eq_true_eq]at hD;exact ih hD.2 hk hq (a7K hD.1 hk hq h)
def oQ:Hp->Bool
 | []=>true
 |(i,o)::r=>decide (1000<=i)&&o.hi&&oQ r
@[simp]theorem g9a:oQ []=true:=rfl
@[simp]theorem f0N{i:Nat}{o:Ob}{r:Hp}:oQ ((i,o)::r)=(decide (1000<=i)&&o.hi&&oQ r):=rfl
def RI:Hp->List Nat->Bool
 | [],_=>true
 |(i,_)::r,ks=>(decide (i<1000)||ks.contains i)&&RI r ks
@[simp]theorem f1N{ks:List Nat}:RI [] ks=true:=rfl
@[simp]theorem a9K{i:Nat}{o:Ob}{r:Hp}{ks:List Nat}:RI ((i,o)::r) ks=((decide (i<1000)||ks.contains i)&&RI r ks):=rfl
theorem a0L{α:Type}{H:List (Nat×α)}{id:Nat}{o:α}(h:look H id=some o):id∈H.map (·.1):=a6M.1 (CD h)
theorem a1L{s:St}{H':Hp}(h1:RJ s.hp H')(h2:RI s.hp (IP H')=true)(h3:oQ H'=true):
 ∃D:List Nat,D.all (· <1000)=true/\∀id,look (s.ZR D).hp id=look H' id:=by
 have Zq:((s.hp.map (·.1)).filter (· <1000)).all (· <1000)=true:=by simp
 have hhi:∀{H:Hp},oQ H=true->∀id o,look H id=some o->1000<=id/\o.hi=true:=by
  intro H
  induction H with
  |nil=>intro _ id o h;cases h
  |cons p r ih=>
   obtain⟨i,q⟩:=p;intro h id o ho;simp only[oQ,a3C,decide_eq_true_eq]at h;simp only[look]at ho;split at ho
   ·rename_i e;subst e;cases ho;exact h.1
   ·exact ih h.2 id o ho
 have GN:∀{H:Hp} {ks:List Nat},RI H ks=true->∀id o,look H id=some o->id<1000\/id∈ks:=by
  intro H ks
  induction H with
  |nil=>intro _ id o h;cases h
  |cons p r ih=>
   obtain⟨i,q⟩:=p;intro h id o ho;simp only[RI,a3C,Bool.or_eq_true,decide_eq_true_eq]at h;simp only[look]at ho;split at ho
   ·rename_i e;subst e
    rcases h.1 with g|g
    ·exact .inl g
    ·exact .inr (a6M.1 g)
   ·exact ih h.2 id o ho
 refine⟨(s.hp.map (·.1)).filter (· <1000),Zq,fun id=>?_⟩
 cases hl:look H' id with
 |some o=>
  obtain⟨g1,g2⟩:=hhi h3 id o hl;exact a8K _ Zq g1 g2 (d1p h1 _ (CN hl))
 |none=>
  refine CF _ ?_
  cases hs:look s.hp id with
  |none=>exact .inr rfl
  |some o=>
   left
   rcases GN h2 id o hs with g|g
   ·exact a2E.2 ⟨a0L hs,by simpa using g⟩
   ·rw[a4J]at g;obtain⟨q,hq⟩:=mF g;rw[hl]at hq;cases hq
def EndM(H':Hp)(s:St):Prop:=RJ s.hp H'/\RI s.hp (IP H')=true/\oQ H'=true
def EndM1(t:Nat)(x:IV)(H':Hp)(s:St):Prop:=s.get t= .iv x/\EndM H' s
attribute [simp] EndM EndM1
theorem oP{P:Program}{f:FuncId}{args:List AV}{H H':Hp}{n:Nat}{c:Z9}(hf:ZG P f=some (n,c,[]))
 (YZ:args.length<=n) (hn:n<=999) (Uj:(H.map (·.1)).all (1000<= ·)=true) (U5:((H++H').all fun p=> !p.2.Zf)=true)
 (h:X7 P c ⟨SR 0 args,H⟩ ⟨EndM H',fun _ _=>False,EndM H',fun _ _=>False⟩):ZX P false f args H (.Zp []) H':=
 IN hf YZ Uj U5 (M7 (Tj hn _ _ _ h) fun s h=>by
  obtain⟨D,g1,g2⟩:=a1L h.1 h.2.1 h.2.2
  exact⟨s.ZR D,[],Sg D g1 s,rfl,rfl,g2,fun h=>by cases h⟩)
theorem a3L{P:Program}{f:FuncId}{args:List AV}{H H':Hp}{n t:Nat}{x:IV}{c:Z9}(hf:ZG P f=some (n,c,[.tmp t]))
 (YZ:args.length<=n) (hn:n<=999) (Uj:(H.map (·.1)).all (1000<= ·)=true) (U5:((H++H').all fun p=> !p.2.Zf)=true)
 (h:X7 P c ⟨SR 0 args,H⟩ ⟨EndM1 t x H',fun _ _=>False,EndM1 t x H',fun _ _=>False⟩):ZX P false f args H (.iv x) H':=
 IN hf YZ Uj U5 (M7 (Tj hn _ _ _ h) fun s h=>by
  obtain⟨D,g1,g2⟩:=a1L h.2.1 h.2.2.1 h.2.2.2
  exact⟨s.ZR D,[.iv x],Sg D g1 s,by simp[VN,mG _ h.1],rfl,g2,fun h=>by cases h⟩)
def a4L:Hp->Hp->Prop
 | [],_=>True
 |(id,o)::r,H'=>(∃o',look H' id=some o'/\o.le o')/\a4L r H'
@[simp]theorem a5L{H':Hp}:a4L [] H'↔True:=⟨fun h=>h,fun h=>h⟩
@[simp]theorem a6L{id:Nat}{o:Ob}{r H':Hp}:a4L ((id,o)::r) H'↔(∃o',look H' id=some o'/\o.le o')/\a4L r H':=⟨fun h=>h,fun h=>h⟩
@[simp]theorem g9v{cs:List AV}{o:Ob}:(Ob.box cs).le o:=Ob.le_none rfl
@[simp]theorem g4W{Z:GZ}{vs:List Value}{cs:List AV}{o:Ob}:(Ob.gh Z vs cs).le o:=Ob.le_none rfl
@[simp]theorem g0w{sk g}{o:Ob}:(Ob.map sk g).le o:=Ob.le_none rfl
@[simp]theorem f2N{sk sz g h}{o:Ob}:(Ob.YA sk sz g h).le o:=Ob.le_none rfl
theorem a7L:∀{H H':Hp},a4L H H'->∀id o,look H id=some o->∃o',look H' id=some o'/\o.le o'
 | [],_,_,id,o,h=>by cases h
 |(i,q)::r,H',h,id,o,ho=>by
  simp only[look]at ho;split at ho
  ·rename_i e;subst e;cases ho;exact h.1
  ·exact a7L h.2 id o ho
theorem a8L:∀{H:Hp} {ks:List Nat},GO H ks=true->∀id o,look H id=some o->id∈ks
 | [],_,_,id,o,h=>by cases h
 |(i,q)::r,ks,h,id,o,ho=>by
  simp only[GO,a3C]at h;simp only[look]at ho;split at ho
  ·rename_i e;subst e;exact a6M.1 h.1
  ·exact a8L h.2 id o ho
def mE:Hp->List Nat->Bool
 | [],_=>true
 |(_,o)::r,ks=>o.YO ks&&mE r ks
@[simp]theorem a0M{ks:List Nat}:mE [] ks=true:=rfl
@[simp]theorem a1M{i:Nat}{o:Ob}{r:Hp}{ks:List Nat}:mE ((i,o)::r) ks=(o.YO ks&&mE r ks):=rfl
@[simp]theorem f3N{ks:List Nat}{cs:List AV}:Ob.YO ks (.box cs)=cs.all (AV.WM ks):=rfl
@[simp]theorem a2M{ks:List Nat}{sz:Nat}{xs:List (List IV)}:Ob.YO ks (.list sz xs)=true:=rfl
@[simp]theorem f4N{ks:List Nat}{sk g}:Ob.YO ks (.map sk g)=true:=rfl
@[simp]theorem a3M{ks:List Nat}{sk sz g h}:Ob.YO ks (.YA sk sz g h)=true:=rfl
theorem a4M:∀{H:Hp} {ks:List Nat},mE H ks=true->∀id o,look H id=some o->o.YO ks=true
 | [],_,_,id,o,h=>by cases h
 |(i,q)::r,ks,h,id,o,ho=>by
  simp only[mE,a3C]at h;simp only[look]at ho;split at ho
  ·cases ho;exact h.1
  ·exact a4M h.2 id o ho
theorem T6{P:Program}{d:Nat}{f:FuncId}{pre post:List Z3}{ops:List Operand}{y:Option Operand}{s s1:St}{K:St->AV->Prop}{args:List AV}{res:AV}{H H':Hp}
 (h:ZX P false f args H res H') (H7:(s.YX ((s.args pre ops post).filter fun x=> !x.YO (IP H))).drop d=s1)
 (hy:∀z,y=some z->s1.ev z= .fn f pre post) (ha:(s1.args pre ops post).map (s1.arg false (IP H))=args) (hr:args.all (AV.YO (IP H))=true)
 (hs:RJ s1.hp H) (ho:mE H (IP H)=true) (hkp:a4L H H') (hn:GO H' (IP H)=true) (hk:K (s1.join H') res):MP P d f pre ops post y s K:=by
 rw[a4J]at*;refine oR ⟨s,Le.refl s,false,H,res,H',s1,H7.symm,?_,{spec:=?_,refs:=?_,sub:=fun id o h=>d1p hs _ (CN h),own:=a4M ho,keep:=a7L hkp,new:=fun id o h1 h2=>?_},hk⟩
 ·cases y with
  |none=>trivial
  |some z=>exact hy z rfl
 ·rw[ha];exact h
 ·rw[ha];exact hr
 ·have:=a8L hn id o h1;obtain⟨o',h'⟩:=mF this;rw[h2]at h';cases h'
theorem PH{P:Program}{d:Nat}{f:FuncId}{pre post:List Z3}{ops:List Operand}{z:Operand}{s:St}{K:St->AV->Prop}{args:List AV}{res:AV}(h:ZX P true f args [] res [])
 (hy:(s.drop d).ev z= .fn f pre post) (ha:(((s.drop d).args pre ops post).map ((s.drop d).arg true []))=args) (hr:args.all (AV.YO [])=true) (hk:K (s.drop d) res):MP P d f pre ops post (some z) s K:=by
 refine oR ⟨s,Le.refl s,true,[],res,[],s.drop d,rfl,hy,{spec:=?_,refs:=?_,sub:=fun _ _ h=>?_,own:=fun _ _ h=>?_,keep:=fun _ _ h=>?_,new:=fun _ _ h=>?_},hk⟩
 all_goals first|(rw[a9U,ha];assumption)|cases h
@[simp]theorem g0b{p:Nat->Bool}:AV.kc p∘AV.iv=AV.iv:=funext fun _=>by simp
@[simp]theorem a7M{id:Nat}{o:Ob}:gone id o∘AV.iv=AV.iv:=funext fun _=>by simp
end Go.Vm
end

section
namespace Go.Rt
open Go.Vm
abbrev ci(i:Int):IV:= .v (.int .i64 i)
abbrev cb(b:Bool):IV:= .v (.bool b)
abbrev vi(i:Int):AV:= .iv (ci i)
abbrev vb(b:Bool):AV:= .iv (cb b)
noncomputable def Y7(p:Prop):Bool:= @decide p (b8I p)
@[simp]theorem UQ{p:Prop}:Y7 p=true↔p:=by unfold Y7;exact @decide_eq_true_iff p (b8I p)
@[simp]theorem U6{p:Prop}:Y7 p=false↔¬p:=by unfold Y7;exact @decide_eq_false_iff_not p (b8I p)
theorem Tf{p:Prop}{b:Bool}:b=Y7 p↔(b=true↔p):=by
 rw[b4H,UQ]
@[simp]theorem e7b{p:Prop}:true=Y7 p↔p:=by rw[eq_comm,UQ]
@[simp]theorem e8b{p:Prop}:false=Y7 p↔¬p:=by rw[eq_comm,U6]
def ZK(n:Nat)(p:Nat->Prop):Prop:=∀j,j<n->p j
@[simp]theorem TP{p:Nat->Prop}:ZK 0 p:=fun _ h=>absurd h (Nat.not_lt_zero _)
theorem ZK.succ{n:Nat}{p:Nat->Prop}(h:ZK n p)(hp:p n):ZK (n+1) p:=fun j hj=>by
 rcases Nat.lt_or_ge j n with h1|h1
 ·exact h j h1
 ·have:j=n:=by omega
  subst this;exact hp
theorem Zr{α:Type}{l:List α}{i:Nat}(h:i<l.length):∃x,l[i]? =some x:=⟨_,a4G h⟩
theorem Zk{n:Int}(h: -(2^63)<=n/\n<2^63):IntKind.i64.wrap n=n:=by rw[IntKind.wrap_i64];omega
@[ext] structure Vl where
 text:Bool
 n:Int
 s:ByteArray
@[simp]def Vl.cells(v:Vl):List IV:=[cb v.text,ci v.n, .v (.string v.s)]
def Vl.zero:Vl:=⟨false,0,⟨#[]⟩⟩
abbrev Vl.av(v:Vl):AV:= .agg (v.cells.map .iv)
@[simp]theorem Vl.eta(v:Vl):Vl.mk v.text v.n v.s=v:=rfl
@[simp]theorem Vl.g9u(t:Bool)(n:Int)(s:ByteArray):(Vl.mk t n s).text=t:=rfl
@[simp]theorem Vl.h4e(t:Bool)(n:Int)(s:ByteArray):(Vl.mk t n s).n=n:=rfl
@[simp]theorem Vl.h5e(t:Bool)(n:Int)(s:ByteArray):(Vl.mk t n s).s=s:=rfl
abbrev Tb:=List Bool
def nT(l:List Bool):List (List IV):=l.map fun b=>[cb b]
def V4(t:Tb):IV:= .Z6 1 (nT t)
def YK(t:Tb):AV:= .agg [.iv (V4 t)]
def YW(l:List Int):List (List IV):=l.map fun i=>[ci i]
def YI(l:List Int):IV:= .Z6 1 (YW l)
def oM(r:List Vl):IV:= .Z6 3 (r.map Vl.cells)
@[simp]theorem e6c(l:List Bool):(nT l).length=l.length:=by simp[nT]
@[simp]theorem e7c(l:List Bool)(i:Nat):(nT l)[i]? =(l[i]?).map fun b=>[cb b]:=by simp[nT]
@[simp]theorem e8c(l:List Int):(YW l).length=l.length:=by simp[YW]
@[simp]theorem e9c(l:List Int)(i:Nat):(YW l)[i]? =(l[i]?).map fun b=>[ci b]:=by simp[YW]
inductive Pd where
 |mk (op col:Int) (v w:Vl) (l:List Pd)
def Pd.op:Pd->Int
 | .mk o _ _ _ _=>o
def Pd.col:Pd->Int
 | .mk _ c _ _ _=>c
def Pd.v:Pd->Vl
 | .mk _ _ v _ _=>v
def Pd.w:Pd->Vl
 | .mk _ _ _ w _=>w
def Pd.l:Pd->List Pd
 | .mk _ _ _ _ l=>l
mutual
def Pd.cells:Pd->List IV
 | .mk o c v w l=>[ci o,ci c,cb v.text,ci v.n, .v (.string v.s),cb w.text,ci w.n, .v (.string w.s), .Z6 9 (Pd.QV l)]
def Pd.QV:List Pd->List (List IV)
 | []=>[]
 |p::r=>p.cells::Pd.QV r
end
theorem Pd.QU:∀l:List Pd,Pd.QV l=l.map Pd.cells
 | []=>by simp[Pd.QV]
 |p::r=>by simp[Pd.QV,Pd.QU r]
theorem Pd.Z8(p:Pd):p.cells=[ci p.op,ci p.col,cb p.v.text,ci p.v.n, .v (.string p.v.s),cb p.w.text,ci p.w.n, .v (.string p.w.s), .Z6 9 (p.l.map Pd.cells)]:=by
 cases p with|mk o c v w l=>rw[Pd.cells,Pd.QU];rfl
def Pd.av(p:Pd):AV:= .agg (p.cells.map .iv)
theorem Pd.Z5(p:Pd):p.av= .agg [.iv (ci p.op), .iv (ci p.col), .iv (cb p.v.text), .iv (ci p.v.n), .iv (.v (.string p.v.s)), .iv (cb p.w.text), .iv (ci p.w.n), .iv (.v (.string p.w.s)), .iv (.Z6 9 (p.l.map Pd.cells))]:=by
 unfold Pd.av;rw[Pd.Z8];rfl
inductive Pd.Ok:Pd->Prop where
 |mk (p:Pd) (h:p.l.length<2^63) (hv:p.v.s.size<2^63) (hw:p.w.s.size<2^63) (hl:∀q,q∈p.l->q.Ok):p.Ok
mutual
def Pd.size:Pd->Int
 | .mk _ _ _ _ l=>1+Pd.sizes l
def Pd.sizes:List Pd->Int
 | []=>0
 |p::r=>p.size+Pd.sizes r
end
theorem Pd.size_eq(p:Pd):p.size=1+Pd.sizes p.l:=by cases p;rw[Pd.size];rfl
@[simp]theorem Pd.f1M:Pd.sizes []=0:=by rw[Pd.sizes]
theorem Pd.Mu{l:List Pd}{i:Nat}{p:Pd}(h:l[i]? =some p):Pd.sizes (l.take (i+1))=Pd.sizes (l.take i)+p.size:=by
 induction l generalizing i with
 |nil=>cases h
 |cons q r ih=>
  cases i with
  |zero=>simp only[a0F,a3y]at h;subst h;simp[Pd.sizes]
  |succ i=>
   simp only[a5J]at h;simp only[List.take_succ_cons,Pd.sizes,ih h];omega
theorem e0d(a b:Int):IntKind.i64.wrap (IntKind.i64.wrap a+IntKind.i64.wrap b)=IntKind.i64.wrap (a+b):=by
 simp only[IntKind.wrap_i64];omega
theorem e1d(a b:Int):IntKind.i64.wrap (IntKind.i64.wrap a+b)=IntKind.i64.wrap (a+b):=by
 simp only[IntKind.wrap_i64];omega
end Go.Rt
end

section
namespace Go.Vm
@[simp]theorem g6b{s:St}:s.ev (.const (.slice none 0 0))= .nil 0:=rfl
def b0D:List AV->List AV->Prop
 | [],[]=>True
 |x::r,y::q=>(x=y\/∃a b,x= .nil a/\y= .nil b)/\b0D r q
 | _,_=>False
@[simp]theorem b1D:b0D [] []↔True:=⟨fun h=>h,fun h=>h⟩
@[simp]theorem b2D{x y:AV}{r q:List AV}:b0D (x::r) (y::q)↔(x=y\/∃a b,x= .nil a/\y= .nil b)/\b0D r q:=⟨fun h=>h,fun h=>h⟩
theorem b3D:∀{cs ds:List AV},b0D cs ds->ds.length=cs.length/\∀(i:Nat) y,ds[i]? =some y->cs[i]? =some y\/∃a b,cs[i]? =some (.nil a)/\y= .nil b
 | [],[],_=>⟨rfl,fun i y h=>by simp at h⟩
 |x::r,y::q,h=>by
  obtain⟨g1,g2⟩:=b3D h.2;refine⟨by simp[g1],fun i z hz=>?_⟩
  cases i with
  |zero=>
   simp only[a0F,a3y]at hz⊢;subst hz;exact h.1
  |succ i=>simpa using g2 i z (by simpa using hz)
 | [],_::_,h=>h.elim
 | _::_,[],h=>h.elim
theorem b4D(s:St){id:Nat}{cs ds:List AV}(ho:look s.hp id=some (.box cs))(h:b0D cs ds):Le s (s.add id (.box ds)):=by
 obtain⟨h1,h2⟩:=b3D h;rintro E n a w ⟨ψ,hs⟩;obtain⟨b,c,e,q1,q2,q3,q4⟩:=hs.YC id _ ho
 refine⟨ψ,hs.MV (o':= .box ds) (k:=(0,c.size)) ho (Ob.le_none rfl) rfl (by simp[Ob.multi]) q1 (fun _ _=>rfl) rfl ⟨rfl,rfl,rfl,a8F _⟩
  (fun hm _=>⟨b,c,e,q1,q2,by rw[q3,h1],fun i x hx=>?_⟩)⟩
 rcases h2 i x hx with g|⟨a',b',g,rfl⟩
 ·exact hm _ _ (q4 i x g)
 ·have:=hm _ _ (q4 i _ g);generalize c.getD i undef=v at this;cases this;exact .nil b'
theorem Py{P:Program}{c:Z9}{s s':St}{O:Yr}(h:Le s s')(k:HY P c s' O):HY P c s O:=by
 obtain⟨I,h3,h4⟩:=k;exact⟨I,h3.le h,h4⟩
theorem e3w{s:St}{id k:Nat}(h:k∈(s.drop id).hp.map (·.1)):k∈s.hp.map (·.1):=by
 obtain⟨o,ho⟩:=mF h
 cases hs:look s.hp k with
 |none=>rw[a9H hs]at ho;cases ho
 |some o'=>exact a0L hs
theorem lQ(D:List Nat):∀{s:St} {k:Nat},k∈(s.ZR D).hp.map (·.1)->k∈s.hp.map (·.1):=by
 induction D with
 |nil=>intro s k h;exact h
 |cons i D ih=>intro s k h;exact e3w (ih h)
def EndD(D:List Nat)(t:Nat)(x:IV)(s:St):Prop:=D.all (· <1000)=true/\(s.ZR D).get t= .iv x/\LC s.hp=true
attribute [simp] EndD
theorem e5w{P:Program}{f:FuncId}{args:List AV}{x:IV}{n t:Nat}{c:Z9}(D:List Nat)(hf:ZG P f=some (n,c,[.tmp t]))
 (YZ:args.length<=n) (hn:n<=999) (hx:x.flat=true) (h:X7 P c ⟨SR 0 args,[]⟩ ⟨EndD D t x,fun _ _=>False,EndD D t x,fun _ _=>False⟩):ZX P true f args [] (.iv x) []:=
 IN hf YZ rfl rfl (M7 (Tj hn _ _ _ h) fun s h=>by
  have hk:((s.ZR D).hp.map (·.1)).all (· <1000)=true:=by
   rw[a8C];intro k hk;exact a8C.1 (Dx h.2.2) k (lQ D hk)
  obtain⟨s',l,g1,g2⟩:=a1I h.2.1 hx hk
  exact⟨s',l,(Sg D h.1 s).trans g1,g2⟩)
theorem e6w{P:Program}{f:FuncId}{args:List AV}{x:IV}{n t:Nat}{c:Z9}(D:List Nat)(hf:ZG P f=some (n,c,[.tmp t]))
 (YZ:args.length<=n) (hn:n<=999) (h:X7 P c ⟨SR 0 args,[]⟩ ⟨EndD D t x,fun _ _=>False,EndD D t x,fun _ _=>False⟩):ZX P false f args [] (.iv x) []:=
 IN hf YZ rfl rfl (M7 (Tj hn _ _ _ h) fun s h=>by
  have hk:((s.ZR D).hp.map (·.1)).all (· <1000)=true:=by
   rw[a8C];intro k hk;exact a8C.1 (Dx h.2.2) k (lQ D hk)
  refine⟨(s.ZR D).ZR ((s.ZR D).hp.map (·.1)),[.iv x],(Sg D h.1 s).trans (Sg _ hk _),?_,rfl,fun id=>?_,fun h=>by cases h⟩
  ·simp[VN,mG _ h.2.1]
  ·refine CF _ ?_
   cases hl:look (s.ZR D).hp id with
   |none=>exact .inr rfl
   |some o=>exact .inl (a6M.1 (CD hl)))
theorem e7w{s:St}{t id j sz lo len:Nat}(hj:id≠j)(h:s.get t= .sl j sz lo len):(s.drop id).get t= .sl j sz lo len:=by
 unfold St.drop;split
 ·exact h
 ·simp only[St.get,St.ZS]at h⊢;rw[c2E (AV.ZS _)]
  cases hl:look s.fr t with
  |none=>rw[hl]at h;cases h
  |some y=>
   rw[hl]at h;simp only[a1J]at h;subst h;simp only[a8H,a1J,AV.ZS,AV.fc];rw[if_neg (Ne.symm hj)];simp only[AV.kc];rw[if_neg (by simpa using Ne.symm hj)]
theorem e8w{s:St}{id j sz:Nat}{xs:List (List IV)}(hj:id≠j)(h:look s.hp j=some (.list sz xs)):look (s.drop id).hp j=some (.list sz xs):=by
 unfold St.drop;split
 ·exact h
 ·simp only[G0,GQ,h,a8H];rw[if_neg (Ne.symm hj)];rfl
theorem e9w(D:List Nat):∀{s:St} {t j sz len:Nat} {xs:List (List IV)},j∉D->s.get t= .sl j sz 0 len->look s.hp j=some (.list sz xs)->(s.ZR D).get t= .sl j sz 0 len/\look (s.ZR D).hp j=some (.list sz xs):=by
 induction D with
 |nil=>intro s t j sz len xs _ h1 h2;exact⟨h1,h2⟩
 |cons i D ih=>
  intro s t j sz len xs hj h1 h2
  have Xu:i≠j:=fun e=>hj (by simp[e])
  exact ih (fun h=>hj (a9C _ h)) (e7w Xu h1) (e8w Xu h2)
def EndN(j sz t:Nat)(xs:List (List IV))(s:St):Prop:=s.get t= .sl j sz 0 xs.length/\look s.hp j=some (.list sz xs)/\LC s.hp=true
attribute [simp] EndN
theorem e0x{P:Program}{f:FuncId}{args:List AV}{n t:Nat}{c:Z9}(j sz:Nat)(xs:List (List IV))(hf:ZG P f=some (n,c,[.tmp t]))
 (YZ:args.length<=n) (hn:n<=999) (hx:∀x∈xs,∀y∈x,y.flat=true) (h:X7 P c ⟨SR 0 args,[]⟩ ⟨EndN j sz t xs,fun _ _=>False,EndN j sz t xs,fun _ _=>False⟩):
 ZX P true f args [] (.sl j sz 0 xs.length) [(j, .list sz xs)]:=
 IN hf YZ rfl rfl (M7 (Tj hn _ _ _ h) fun s h=>by
  obtain⟨h1,h2,h3⟩:=h
  let D:=(s.hp.map (·.1)).filter (· ≠j)
  have hD:D.all (· <1000)=true:=by
   rw[a8C];intro k hk;exact a8C.1 (Dx h3) k (a2E.1 hk).1
  have hj:j∉D:=fun hk=>by have:=(a2E.1 hk).2;simp at this
  obtain⟨g1,g2⟩:=e9w D hj h1 h2;refine⟨s.ZR D,[.sl j sz 0 xs.length],Sg D hD s,by simp[VN,g1],rfl,fun id=>?_,fun _=>⟨rfl,fun id o ho=>?_⟩⟩
  ·simp only[look]
   by_cases e:j=id
   ·subst e;rw[if_pos rfl];exact g2
   ·rw[if_neg e];refine CF _ ?_
    cases hl:look s.hp id with
    |none=>exact .inr rfl
    |some o=>exact .inl (a2E.2 ⟨a0L hl,by simpa using Ne.symm e⟩)
  ·simp only[look]at ho;split at ho
   ·cases ho;exact hx
   ·cases ho)
theorem ZX.fresh{P:Program}{f:FuncId}{args:List AV}{j sz n:Nat}{xs:List (List IV)}(h:ZX P true f args [] (.sl j sz 0 n) [(j, .list sz xs)])(d:Nat)
 (hs:args.all AV.WV=true) (ha:∀ρ:Nat->Nat,args.map (AV.Zl ρ)=args):ZX P true f args [] (.sl d sz 0 n) [(d, .list sz xs)]:=by
 have:=h.Zl (Ren.swap j d) (by simp[hs,AV.WV,AV.Vo,AV.Va,Ob.WV]);rw[ha]at this
 have e:(Ren.swap j d).to j=d:=by simp[Ren.swap,CP]
 simpa[Hp.Zl,AV.Zl,AV.VW,AV.VX,Ob.Zl,e]using this
theorem e1x{P:Program}{d:Nat}{f:FuncId}{ops:List Operand}{s:St}{K:St->AV->Prop}{args:List AV}{sz n:Nat}{xs:List (List IV)}(h:ZX P true f args [] (.sl d sz 0 n) [(d, .list sz xs)])(hd:d<1000)
 (ha:(((s.drop d).args [] ops []).map ((s.drop d).arg true []))=args) (hr:args.all (AV.YO [])=true) (hk:K ((s.drop d).join [(d, .list sz xs)]) (.sl d sz 0 n)):MP P d f [] ops [] none s K:=by
 refine oR ⟨s,Le.refl s,true,[], .sl d sz 0 n,[(d, .list sz xs)],s.drop d,rfl,trivial,{spec:=?_,refs:=?_,sub:=fun _ _ h=>?_,own:=fun _ _ h=>?_,keep:=fun _ _ h=>?_,new:=fun id o h1 _=>?_},hk⟩
 ·rw[a9U,ha];exact h
 ·rw[a9U,ha];exact hr
 ·cases h
 ·cases h
 ·cases h
 ·simp only[look]at h1;split at h1
  ·rename_i e;subst e;exact⟨LI s d,hd⟩
  ·cases h1
theorem b3u{s:St}{t id j off:Nat}(hj:id≠j)(h:s.get t= .ptr j off):(s.drop id).get t= .ptr j off:=by
 unfold St.drop;split
 ·exact h
 ·simp only[St.get,St.ZS]at h⊢;rw[c2E (AV.ZS _)]
  cases hl:look s.fr t with
  |none=>rw[hl]at h;cases h
  |some y=>
   rw[hl]at h;simp only[a1J]at h;subst h;simp only[a8H,a1J,AV.ZS,AV.fc]
   first
   |rfl
   |(simp[Ne.symm hj,AV.kc];done)
   |(split<;>simp_all[AV.kc])
theorem b4u{s:St}{id j:Nat}{cs:List IV}(hj:id≠j)(h:look s.hp j=some (.box (cs.map .iv))):look (s.drop id).hp j=some (.box (cs.map .iv)):=by
 unfold St.drop;split
 ·exact h
 ·rename_i o' _;simp only[G0,GQ,h,a8H];rw[if_neg (Ne.symm hj)];simp only[Ob.ZS,b2Z,a3y,Ob.box.injEq]
  refine b5n fun a _=>?_
  exact congrFun (a7M (id:=id) (o:=o')) a
theorem b5u(D:List Nat):∀{s:St} {t j off:Nat} {cs:List IV},j∉D->s.get t= .ptr j off->look s.hp j=some (.box (cs.map .iv))->(s.ZR D).get t= .ptr j off/\look (s.ZR D).hp j=some (.box (cs.map .iv)):=by
 induction D with
 |nil=>intro s t j off cs _ h1 h2;exact⟨h1,h2⟩
 |cons i D ih=>
  intro s t j off cs hj h1 h2
  have Xu:i≠j:=fun e=>hj (by simp[e])
  exact ih (fun h=>hj (a9C _ h)) (b3u Xu h1) (b4u Xu h2)
def EndC(D:List Nat)(t j:Nat)(cs:List IV)(s:St):Prop:=D.all (· <1000)=true/\(s.ZR D).get t= .ptr j 0/\look (s.ZR D).hp j=some (.box (cs.map .iv))/\LC s.hp=true
attribute [simp] EndC
theorem b6u{P:Program}{f:FuncId}{args:List AV}{n t k:Nat}{c:Z9}(D:List Nat)(j:Nat)(cs:List IV)(hk:cs.length=k)(hf:ZG P f=some (n,c,[.cell t (some k)]))
 (YZ:args.length<=n) (hn:n<=999) (h:X7 P c ⟨SR 0 args,[]⟩ ⟨EndC D t j cs,fun _ _=>False,EndC D t j cs,fun _ _=>False⟩):
 ZX P false f args [] (.agg (cs.map .iv)) [(j, .box (cs.map .iv))]:=
 IN hf YZ rfl rfl (M7 (Tj hn _ _ _ h) fun s h=>by
  obtain⟨h0,h1,h2,h3⟩:=h
  have Xg:((s.ZR D).hp.map (·.1)).all (· <1000)=true:=by
   rw[a8C];intro k hk;exact a8C.1 (Dx h3) k (lQ D hk)
  let E:=((s.ZR D).hp.map (·.1)).filter (· ≠j)
  have hE:E.all (· <1000)=true:=by
   rw[a8C];intro k hk;exact a8C.1 Xg k (a2E.1 hk).1
  have hj:j∉E:=fun hk=>by have:=(a2E.1 hk).2;simp at this
  obtain⟨g1,g2⟩:=b5u E hj h1 h2;refine⟨(s.ZR D).ZR E,[.agg (cs.map .iv)],(Sg D h0 s).trans (Sg E hE _),?_,rfl,fun id=>?_,fun h=>by cases h⟩
  ·subst hk;simp[VN,g1,g2];exact a0z (by simp)
  ·simp only[look]
   by_cases e:j=id
   ·subst e;rw[if_pos rfl];exact g2
   ·rw[if_neg e];refine CF _ ?_
    cases hl:look (s.ZR D).hp id with
    |none=>exact .inr rfl
    |some o=>exact .inl (a2E.2 ⟨a0L hl,by simpa using Ne.symm e⟩))
theorem b7u{P:Program}{d:Nat}{f:FuncId}{ops:List Operand}{s s1:St}{K:St->AV->Prop}{args:List AV}{res:AV}{o:Ob}(h:ZX P false f args [] res [(d,o)])(hd:d<1000)
 (H7:(s.YX ((s.args [] ops []).filter fun x=> !x.YO [])).drop d=s1)
 (ha:((s1.args [] ops []).map (s1.arg false []))=args) (hr:args.all (AV.YO [])=true) (hk:K (s1.join [(d,o)]) res):MP P d f [] ops [] none s K:=by
 refine oR ⟨s,Le.refl s,false,[],res,[(d,o)],s1,H7.symm,trivial,{spec:=?_,refs:=?_,sub:=fun _ _ h=>?_,own:=fun _ _ h=>?_,keep:=fun _ _ h=>?_,new:=fun id o h1 _=>?_},hk⟩
 ·rw[a9U];rw[ha];exact h
 ·rw[a9U];rw[ha];exact hr
 ·cases h
 ·cases h
 ·cases h
 ·simp only[look]at h1;split at h1
  ·rename_i e;subst e;exact⟨H7▸LI _ d,hd⟩
  ·cases h1
theorem b4Y{s:St}{g:Nat}{Z Z':GZ}(hg:look s.hp g=some (.gh Z [] []))(hz:∀A B w,Z A B w->Z' A B w):Le s (s.add g (.gh Z' [] [])):=by
 rintro E n a w ⟨ψ,h⟩
 have lk:∀{id o},look (s.add g (.gh Z' [] [])).hp id=some o->(id=g/\o= .gh Z' [] [])\/(id≠g/\look s.hp id=some o):=by
  intro id o ho;rw[WL]at ho
  by_cases e:g=id
  ·subst e;rw[if_pos rfl]at ho;cases ho;exact .inl ⟨rfl,rfl⟩
  ·rw[if_neg e]at ho;exact .inr ⟨Ne.symm e,ho⟩
 have old:∀{id o},look (s.add g (.gh Z' [] [])).hp id=some o->∃o',look s.hp id=some o'/\o'.org id=o.org id/\o'.multi=o.multi:=by
  intro id o ho
  rcases lk ho with⟨rfl,rfl⟩|⟨_,h⟩
  ·exact⟨_,hg,rfl,rfl⟩
  ·exact⟨o,h,rfl,rfl⟩
 have Wi:∀b,ZD ψ (s.add g (.gh Z' [] [])).hp b->ZD ψ s.hp b:=by
  rintro b ⟨id,o,ho,hb⟩;obtain⟨o',h1,_⟩:=old ho;exact⟨id,o',h1,hb⟩
 have hI:∀b,b<w.heap.size->Im E ψ s.hp b->Im E ψ (s.add g (.gh Z' [] [])).hp b:=fun b _ hb=>⟨hb.1,fun hh=>hb.2 (Wi b hh)⟩
 have hk:U8 ψ ψ s.hp (s.add g (.gh Z' [] [])).hp:=by
  intro id o ho;refine⟨?_,rfl⟩
  by_cases e:g=id
  ·subst e;rw[hg]at ho;cases ho;exact⟨_,by rw[WL,if_pos rfl],Ob.le_none rfl⟩
  ·exact⟨o,by rw[WL,if_neg e];exact ho,o.le_refl⟩
 refine⟨ψ,{size:=h.size,defers:=h.defers.mono hI (fun _ _ _=>rfl),frame:=fun t=>(h.frame t).mono hI (fun _ _ _=>rfl) hk,YC:=fun id o ho=>?_,inj:=fun id XK o o' b q1 q2=>?_,own:=fun id o b ho hb=>?_,YU:=fun id o b ho hb=>?_,par:=h.par,old:=h.old,grow:=h.grow,same:=h.same}⟩
 ·rcases lk ho with⟨rfl,rfl⟩|⟨_,ho⟩
  ·obtain⟨q1,q2,_,_⟩:=h.YC id _ hg;have NL:=q2.mono hI (fun _ h=>h) (fun _ _ _=>rfl) (fun _ _=>rfl);exact⟨q1,fun A' B' w' k1 k2 k3 k4=>hz _ _ _ (NL A' B' w' k1 k2 k3 k4),rfl,by simp⟩
  ·exact(h.YC id o ho).mono hI (fun _ _ _=>rfl) hk ⟨rfl,fun _ h=>h⟩ (fun _ _=>rfl)
 ·obtain⟨o1,g1,_⟩:=old q1;obtain⟨o2,g2,_⟩:=old q2;exact h.inj id XK o1 o2 b g1 g2
 ·obtain⟨o1,g1,g2,_⟩:=old ho;rw[<-g2];exact h.own id o1 b g1 hb
 ·obtain⟨o1,g1,_,g3⟩:=old ho;rw[<-g3];exact h.YU id o1 b g1 hb
def f1Q(Ze:GZ)(s:St):Prop:=∃Z,look s.hp 1000=some (.gh Z [] [])/\(∀A B w,Z A B w->Ze A B w)/\RI s.hp [1000]=true
theorem b5Y{P:Program}{f:FuncId}{args:List AV}{Z0 Ze:GZ}{n:Nat}{c:Z9}(hf:ZG P f=some (n,c,[]))(YZ:args.length<=n)(hn:n<=999)
 (h:X7 P c ⟨SR 0 args,[(1000, .gh Z0 [] [])]⟩ ⟨f1Q Ze,fun _ _=>False,f1Q Ze,fun _ _=>False⟩):ZX P false f args [(1000, .gh Z0 [] [])] (.Zp []) [(1000, .gh Ze [] [])]:=
 IN hf YZ rfl rfl (M7 (Tj hn _ _ _ h) fun s h=>by
  obtain⟨Z,h1,h2,h3⟩:=h;obtain⟨D,g1,g2⟩:=a1L (H':=[(1000, .gh Z [] [])]) (s:=s) ⟨h1,trivial⟩ h3 rfl
  have g3:look (s.ZR D).hp 1000=some (.gh Z [] []):=by rw[g2];rfl
  refine⟨(s.ZR D).add 1000 (.gh Ze [] []),[],(Sg D g1 s).trans (b4Y g3 h2),rfl,rfl,fun id=>?_,fun h=>by cases h⟩;rw[WL]
  by_cases e:1000=id
  ·subst e;simp[look]
  ·rw[if_neg e,g2];simp[look,e])
theorem b6Y{P:Program}{l g:Nat}{Z Z':GZ}{b:Bool}{xs:List AV}{ops:List Operand}{s:St}{K:St->AV->Prop}(hy:ow P l xs Z b Z')(hg:look s.hp g=some (.gh Z [] []))
 (NA:ops.map s.ev=xs) (Ul:xs.all AV.plain=true) (hk:K (s.join [(g, .gh Z' [] [])]) (.iv (.v (.bool b)))):a7R P l ops s K:=⟨s,g,Z,b,Z',xs,Le.refl s,hg,⟨NA,Ul⟩,hy,hk⟩
theorem b7Y{P:Program}{g:Operand}{ps:List Nat}{X Y:Z9}{s:St}{O:Yr}(D D':List Nat)(r:Nat)(fr:List (Nat×AV))(I:List (List AV)->Prop)(H:List (List AV)->Hp)
 {f:FuncId} {caps:List IV} {T4:List (List AV)->List AV->Prop} {S:List (List AV)->Prop} (VS:ox P f caps T4 S) (h0:LeTo D s ⟨fr,H []⟩) (hg:St.ev ⟨fr,H []⟩ g= .fn f [] (caps.map Z3.val)) (ZY:XV P f=true)
 (hr:r<1000) (Df:look (H []) r=none) (VM:(fr.map (·.1)).Nodup) (hlen:∀pre x,T4 pre x->x.length=ps.length) (hI:I [])
 (Wx:∀vs pre x,I pre->T4 pre x->I (pre++[x])/\X7 P X (UF ps x ⟨fr,(r, .gh ZT vs (XU fr))::H pre⟩)
  ⟨fun s'=>X7 P Y s' ⟨fun s2=>LeTo D' s2 ⟨[],(r, .gh ZT vs (XU fr))::H (pre++[x])⟩,fun _ _=>False,fun _=>False,fun _ _=>False⟩,fun _ _=>False,fun _=>False,fun _ _=>False⟩)
 (Mn:∀vs xs,I xs->S xs->O.n ⟨fr,(r, .gh ZT vs (XU fr))::H xs⟩):F3 P g ps X Y s O:=by
 refine⟨f,caps,T4,S,r,fr,I,H,fun _ _=>true,fun _ _=>[],⟨h0.le,hg,ZY,VS,hr,Df,VM,hlen,hI⟩,fun vs pre x q1 q2 _=>⟨(Wx vs pre x q1 q2).1,?_⟩,fun _ _ _ _ _ h=>(by cases h),fun vs xs q1 q2=>⟨_,Le.refl _,Mn vs xs q1 q2⟩⟩;refine CB X ?_ ?_ ?_ ?_ (Wx vs pre x q1 q2).2
 ·intro s h;refine CB Y ?_ ?_ ?_ ?_ h
  ·exact fun s2 h=>h.le
  ·exact fun _ _ h=>h
  ·exact fun _ h=>h
  ·exact fun _ _ h=>h
 ·exact fun _ _ h=>h
 ·exact fun _ h=>h
 ·exact fun _ _ h=>h
def E8(t:Nat)(R:AV->Hp->Prop)(s:St):Prop:=∃(D:List Nat) (x:AV) (H':Hp),R x H'/\LeTo D s ⟨[(t,x)],H'⟩
theorem b8Y{P:Program}{f:FuncId}{args:List AV}{n t:Nat}{c:Z9}(R:AV->Hp->Prop)(hf:ZG P f=some (n,c,[.tmp t]))(YZ:args.length<=n)(hn:n<=999)
 (hR:∀x H',R x H'->(∀id o,look H' id=some o->o.Zf=false)/\(∀cs,x≠ .Zp cs))
 (h:X7 P c ⟨SR 0 args,[]⟩ ⟨E8 t R,fun _ _=>False,E8 t R,fun _ _=>False⟩):Mr P false f args [] R:=
 e4d hf YZ rfl rfl (fun x H' h=>(hR x H' h).1) (M7 (Tj hn _ _ _ h) fun s h=>by
  obtain⟨D,x,H',h1,h2⟩:=h
  exact⟨⟨[(t,x)],H'⟩,[x],H',h2.le,by simp[VN,St.get,look],h1,fun _=>rfl,fun h=>by cases h⟩)
theorem b9Y{P:Program}{f:FuncId}{args:List AV}{n t:Nat}{c:Z9}(R:AV->Hp->Prop)(hf:ZG P f=some (n,c,[.tmp t]))(YZ:args.length<=n)(hn:n<=999)
 (hR:∀x H',R x H'->(∀id o,look H' id=some o->o.Zf=false/\o.flat)/\x.flat=true)
 (h:X7 P c ⟨SR 0 args,[]⟩ ⟨E8 t R,fun _ _=>False,E8 t R,fun _ _=>False⟩):Mr P true f args [] R:=
 e4d hf YZ rfl rfl (fun x H' h id o ho=>((hR x H' h).1 id o ho).1) (M7 (Tj hn _ _ _ h) fun s h=>by
  obtain⟨D,x,H',h1,h2⟩:=h
  exact⟨⟨[(t,x)],H'⟩,[x],H',h2.le,by simp[VN,St.get,look],h1,fun _=>rfl,fun _=>⟨(hR x H' h1).2,fun id o ho=>((hR x H' h1).1 id o ho).2⟩⟩)
attribute [simp] c9H
theorem b0Z{P:Program}{d:Nat}{f:FuncId}{ops:List Operand}{s:St}{K:St->AV->Prop}{args:List AV}{R:AV->Hp->Prop}(h:Mr P true f args [] R)
 (ha:c9H (s.drop d) true [] ((s.drop d).args [] ops []) args) (hr:args.all (AV.YO [])=true)
 (FM:∀x H',R x H'->∀id o,look H' id=some o->look (s.drop d).hp id=none/\id<1000) (hk:∀x H',R x H'->K ((s.drop d).join H') x):MP P d f [] ops [] none s K:=
 ⟨s,Le.refl s,true,[],R,s.drop d,rfl,trivial,args,ha,{spec:=h,refs:=hr,sub:=fun _ _ h=>(by cases h),own:=fun _ _ h=>(by cases h),keep:=fun _ _ _ _ _ h=>(by cases h),new:=fun x H' hR id o h1 _=>FM x H' hR id o h1},hk⟩
theorem Y6{P:Program}{d:Nat}{f:FuncId}{ops:List Operand}{s s1:St}{K:St->AV->Prop}{args:List AV}{res:AV}{H':Hp}(h:ZX P false f args [] res H')
 (H7:(s.YX ((s.args [] ops []).filter fun x=> !x.YO [])).drop d=s1)
 (ha:((s1.args [] ops []).map (s1.arg false []))=args) (hr:args.all (AV.YO [])=true) (hn:GO H' (H'.map (·.1))=true) (hf:H'.all (fun p=>decide (p.1<1000)&&(look s1.hp p.1).isNone)=true)
 (hk:K (s1.join H') res):MP P d f [] ops [] none s K:=by
 refine oR ⟨s,Le.refl s,false,[],res,H',s1,H7.symm,trivial,{spec:=?_,refs:=?_,sub:=fun _ _ h=>?_,own:=fun _ _ h=>?_,keep:=fun _ _ h=>?_,new:=fun id o h1 _=>?_},hk⟩
 ·rw[a9U];rw[ha];exact h
 ·rw[a9U];rw[ha];exact hr
 ·cases h
 ·cases h
 ·cases h
 ·have:=a8C.1 hf _ (CN h1);simp only[a3C,decide_eq_true_eq,Option.isNone_iff_eq_none]at this;exact⟨this.2,this.1⟩
theorem e8t{s:St}{t:Nat}{y:IV}(h:(s.get t).Xt=some y):Le s (s.set t (.iv y)):=by
 rintro E n a w ⟨ψ,hs⟩;refine⟨ψ,{hs with frame:=fun u=>?_}⟩;rw[St.WW];split
 ·rename_i e;subst e;exact .iv _ _ (d7A (hs.frame t) h (fun _ _ h=>h))
 ·exact hs.frame u
def Yz(D:List Nat)(t:Nat)(x:IV)(s:St):Prop:=D.all (· <1000)=true/\((s.ZR D).get t).Xt=some x/\LC s.hp=true
theorem Te{P:Program}{f:FuncId}{args:List AV}{x:IV}{n t:Nat}{c:Z9}(hf:ZG P f=some (n,c,[.tmp t]))
 (YZ:args.length<=n) (hn:n<=999) (h:X7 P c ⟨SR 0 args,[]⟩ ⟨fun s=>∃D,Yz D t x s,fun _ _=>False,fun s=>∃D,Yz D t x s,fun _ _=>False⟩):ZX P false f args [] (.iv x) []:=
 IN hf YZ rfl rfl (M7 (Tj hn _ _ _ h) fun s h=>by
  obtain⟨D,h1,h2,h3⟩:=h
  have hk:(((s.ZR D).set t (.iv x)).hp.map (·.1)).all (· <1000)=true:=by
   show((s.ZR D).hp.map (·.1)).all (· <1000)=true
   rw[a8C];intro k hk;exact a8C.1 (Dx h3) k (lQ D hk)
  refine⟨((s.ZR D).set t (.iv x)).ZR (((s.ZR D).set t (.iv x)).hp.map (·.1)),[.iv x],((Sg D h1 s).trans (e8t h2)).trans (Sg _ hk _),?_,rfl,fun id=>?_,fun h=>by cases h⟩
  ·simp[VN,mG _ (show((s.ZR D).set t (.iv x)).get t= .iv x by rw[St.WW,if_pos rfl])]
  ·refine CF _ ?_
   cases hl:Vm.look ((s.ZR D).set t (.iv x)).hp id with
   |none=>exact .inr rfl
   |some o=>exact .inl (a6M.1 (CD hl)))
def PZ(D:List Nat)(t u:Nat)(x y:IV)(s:St):Prop:=D.all (· <1000)=true/\((s.ZR D).get t).Xt=some x/\(s.ZR D).get u= .iv y/\LC s.hp=true
theorem FA{P:Program}{f:FuncId}{args:List AV}{x y:IV}{n t u:Nat}{c:Z9}(htu:t≠u)(hf:ZG P f=some (n,c,[.tmp t, .tmp u]))
 (YZ:args.length<=n) (hn:n<=999) (h:X7 P c ⟨SR 0 args,[]⟩ ⟨fun s=>∃D,PZ D t u x y s,fun _ _=>False,fun s=>∃D,PZ D t u x y s,fun _ _=>False⟩):ZX P false f args [] (.Zp [.iv x, .iv y]) []:=
 IN hf YZ rfl rfl (M7 (Tj hn _ _ _ h) fun s h=>by
  obtain⟨D,h1,h2,h4,h3⟩:=h
  have hk:(((s.ZR D).set t (.iv x)).hp.map (·.1)).all (· <1000)=true:=by
   show((s.ZR D).hp.map (·.1)).all (· <1000)=true
   rw[a8C];intro k hk;exact a8C.1 (Dx h3) k (lQ D hk)
  refine⟨((s.ZR D).set t (.iv x)).ZR (((s.ZR D).set t (.iv x)).hp.map (·.1)),[.iv x, .iv y],((Sg D h1 s).trans (e8t h2)).trans (Sg _ hk _),?_,rfl,fun id=>?_,fun h=>by cases h⟩
  ·simp[VN,mG _ (show((s.ZR D).set t (.iv x)).get t= .iv x by rw[St.WW,if_pos rfl]),mG _ (show((s.ZR D).set t (.iv x)).get u= .iv y by rw[St.WW,if_neg (by first|exact htu|exact Ne.symm htu)];exact h4)]
  ·refine CF _ ?_
   cases hl:Vm.look ((s.ZR D).set t (.iv x)).hp id with
   |none=>exact .inr rfl
   |some o=>exact .inl (a6M.1 (CD hl)))
theorem d1u{P:Program}{d:Nat}{f:FuncId}{pre post:List Z3}{ops:List Operand}{y:Option Operand}{s s':St}{K:St->AV->Prop}(h:Le s s')
 (k:MP P d f pre ops post y s' K):MP P d f pre ops post y s K:=by
 obtain⟨s2,h2,h3⟩:=k;exact⟨s2,h.trans h2,h3⟩
end Go.Vm
end

section
namespace Go.Vm
open Go.Sort (Holds putRow grow putCells mapBlock)
def Wu(l:List Int):List (List IV):=l.map fun i=>[.v (.int .i64 i)]
def Xo(l:List Int):List Int:=l.mergeSort fun x y=>decide (x<=y)
theorem c2H{l:List Int}{i j:Nat}{c:IV}(h:at2 (Wu l) i j=some c):j=0/\∃n,l[i]? =some n/\c= .v (.int .i64 n):=by
 unfold at2 Wu at h;rw[a1C]at h
 cases hl:l[i]? with
 |none=>rw[hl]at h;simp at h
 |some n=>
  rw[hl]at h;simp only[a8H,Option.bind_some]at h
  cases j with
  |zero=>simp at h;exact⟨rfl,n,rfl,h.symm⟩
  |succ j=>simp at h
theorem c3H{l:List Int}{i:Nat}{n:Int}(h:l[i]? =some n):at2 (Wu l) i 0=some (.v (.int .i64 n)):=by
 unfold at2 Wu;rw[a1C,h];rfl
theorem c4H{A:Nat->Prop}{w:World}{n:Int}{v:Value}(h:Yq A w (.v (.int .i64 n)) v):v= .int .i64 n:=by cases h;rfl
theorem c5H{P:Program}{f:FuncId}(F:List Int->List Int)(hF:∀l,(F l).length=l.length)(hF0:F []=[])
 (hs:∀(Wh off cap:Nat) (zs:List Int) (w:World),Holds (Value.int .i64) w Wh off zs.toArray->Wh<w.heap.size->zs.length<4611686018427387904->
  Calls P f #[.slice (some ⟨Wh,off,none⟩) zs.length cap] w fun e w'=>e= .returned (.tuple #[])/\∃n os,w'=grow (putRow (Value.int .i64) (Go.Sort.ahead w n) Wh off (F zs).toArray) os)
 (hn:∀(p:Option Addr) (cap:Nat) (w:World),Calls P f #[.slice p 0 cap] w fun e w'=>e= .returned (.tuple #[])/\w'=w)
 (xs:List Int) (hl:xs.length<2^62):ZX P false f [.sl 1000 1 0 xs.length] [(1000, .list 1 (Wu xs))] (.Zp []) [(1000, .list 1 (Wu (F xs)))]:=by
 have hlen:(F xs).length=xs.length:=hF xs
 have XP:∀{o:Ob} {id:Nat} {q:Ob},look [(1000,o)] id=some q->id=1000/\q=o:=by
  intro o id q h;simp only[look]at h;split at h
  ·exact⟨by omega,by cases h;rfl⟩
  ·cases h
 refine⟨⟨fun id o h=>by obtain⟨_,rfl⟩:=XP h;rfl,fun id o h=>by obtain⟨_,rfl⟩:=XP h;rfl⟩,?_⟩
 intro A ψ w vs hA UJ hinj VU Wi QC U9;have ho:=UJ 1000 (.list 1 (Wu xs)) rfl;have hr:=U9 0 _ rfl
 obtain⟨v,rfl⟩:∃v,vs=[v]:=by
  match vs,QC with
  | [v],_=>exact⟨v,rfl⟩
 simp only[a7S,a0F,a1J]at hr
 have key:∀(w':World),w.heap.size<=w'.heap.size->Rn w w'->(∀b,b<w.heap.size->¬ZD ψ [(1000, .list 1 (Wu xs))] b->w'.heap[b]? =w.heap[b]?)->
  WU (fun b=>((false=false/\A b)\/w.heap.size<=b)/\¬ZD ψ [(1000, .list 1 (Wu (F xs)))] b) ψ [(1000, .list 1 (Wu (F xs)))] w' 1000 (.list 1 (Wu (F xs)))->
  ∃v ZF,(Ending.returned (.tuple #[]):Ending)= .returned v∧
  (∀b,b<w.heap.size->¬ZD ψ [(1000, .list 1 (Wu xs))] b->w'.heap[b]? =w.heap[b]?)/\w.heap.size<=w'.heap.size/\Rn w w'∧
  (∀id o,look [(1000,Ob.list 1 (Wu xs))] id=some o->ZF.main id=ψ id)∧
  (∀id o b,look [(1000,Ob.list 1 (Wu (F xs)))] id=some o->ZZ ZF id b->(∃o0,look [(1000,Ob.list 1 (Wu xs))] id=some o0/\ZZ ψ id b)\/w.heap.size<=b)∧
  (∀id XK o o' b,look [(1000,Ob.list 1 (Wu (F xs)))] id=some o->look [(1000,Ob.list 1 (Wu (F xs)))] XK=some o'->ZZ ZF id b->ZZ ZF XK b->id=XK)/\Ug ZF [(1000, .list 1 (Wu (F xs)))] w'∧
  (∀id o,look [(1000,Ob.list 1 (Wu (F xs)))] id=some o->WU (fun b=>((false=false/\A b)\/w.heap.size<=b)/\¬ZD ZF [(1000, .list 1 (Wu (F xs)))] b) ZF [(1000, .list 1 (Wu (F xs)))] w' id o)∧
  ZL (fun b=>((false=false/\A b)\/w.heap.size<=b)/\¬ZD ZF [(1000, .list 1 (Wu (F xs)))] b) ZF [(1000, .list 1 (Wu (F xs)))] w' (.Zp []) v:=by
  intro w' h1 h2 h3 h4;refine⟨.tuple #[],ψ,rfl,h3,h1,h2,fun _ _ _=>rfl,fun id o b h hb=> .inl ?_,fun id XK o o' b h h' _ _=>?_,fun id o b h hb=>?_,fun id o h=>?_, .Zp [] #[] rfl (fun i c h=>by simp at h)⟩
  ·obtain⟨rfl,rfl⟩:=XP h;exact⟨.list 1 (Wu xs),rfl,hb⟩
  ·obtain⟨rfl,_⟩:=XP h;obtain⟨rfl,_⟩:=XP h';rfl
  ·obtain⟨rfl,rfl⟩:=XP h;have:=(VU 1000 (.list 1 (Wu xs)) b rfl hb).1;cases this
  ·obtain⟨rfl,rfl⟩:=XP h;exact h4
 obtain⟨Wp,ho⟩:=ho
 by_cases hx:xs=[]
 ·subst hx
  have hv:∃p cap,v= .slice p 0 cap:=by
   cases hr with
   |UR=>exact⟨_,_,rfl⟩
   |sl=>exact⟨_,_,rfl⟩
  obtain⟨p,cap,rfl⟩:=hv;refine(hn p cap w).mono ?_;rintro e w' ⟨rfl,rfl⟩;refine key w' (a8F _) ⟨rfl,rfl,rfl,a8F _⟩ (fun _ _ _=>rfl) ?_;have hso:F []=[]:=hF0;rw[hso];refine⟨Wp,?_⟩
  rcases ho with⟨g1,g2⟩|⟨b,k,c,e,g1,g2,g3,g4,g5⟩
  ·exact .inl ⟨g1,g2⟩
  ·exact .inr ⟨b,k,c,e,g1,g2,g3,g4,fun i j x h=>by simp[at2,Wu]at h⟩
 ·have W0:=a6I.2 hx
  rcases ho with⟨_,g2⟩|⟨b,k,c,e,g1,g2,g3,g4,g5⟩
  ·exact absurd (by simpa[Wu]using g2) hx
  ·obtain⟨cap,rfl⟩:∃cap,v= .slice (some ⟨b,k.1,none⟩) xs.length cap:=by
    generalize hlx:xs.length=n at hr W0
    cases hr with
    |UR=>omega
    |sl id sz lo len b' k' cap a o n' XI he hxx hb ha Vc hk hm=>
     rw[g1]at hb;cases hb;have:=ha (by omega);rw[d3R,b1H]at this;subst this;exact⟨cap,rfl⟩
   have C3:b<w.heap.size:=Vw g2;have hB:ZD ψ [(1000, .list 1 (Wu xs))] b:=⟨1000, .list 1 (Wu xs),rfl, .inl ⟨k,g1⟩⟩
   have SU:∀i n,xs[i]? =some n->c[k.1+i]? =some (.int .i64 n):=by
    intro i n hi;have h5:=c4H (g5 i 0 _ (c3H hi));have Zd:=(a5y.1 hi).1
    have hcs:k.1+i<c.size:=by simp only[Wu,a5O]at g4;omega
    rw[c0Q,b1H]at h5;rw[a3E,a3N hcs]at h5;rw[a3N hcs];exact congrArg some h5
   have hH:Holds (Value.int .i64) w b k.1 xs.toArray:=by
    intro j hj;simp only[b7r]at hj;have QM:=a4G hj;constructor
    ·simp only[World.cell?,g2];rw[SU j _ QM];simp[hj]
    ·simp only[World.frozen?,g2];simp
   refine(hs b k.1 cap xs w hH C3 (by omega)).mono ?_;rintro ex w' ⟨rfl,n,os,rfl⟩
   have Ya:(putRow (Value.int .i64) (Go.Sort.ahead w n) b k.1 (F xs).toArray).heap.size=w.heap.size:=by simp[putRow,mapBlock,Go.Sort.ahead]
   have Rl:∀i,i≠b->i<w.heap.size->(grow (putRow (Value.int .i64) (Go.Sort.ahead w n) b k.1 (F xs).toArray) os).heap[i]? =w.heap[i]? :=by
    intro i hi Z2;rw[Go.Sort.heap_grow_old _ _ (by rw[Ya];exact Z2)];simp only[putRow,mapBlock,Go.Sort.ahead,a5N];rw[if_neg (Ne.symm hi)]
   have Nt:(grow (putRow (Value.int .i64) (Go.Sort.ahead w n) b k.1 (F xs).toArray) os).heap[b]? =some (.cells (putCells (Value.int .i64) k.1 (F xs).toArray c) e (0,0)):=by
    rw[Go.Sort.heap_grow_old _ _ (by rw[Ya];exact C3)];simp only[putRow,mapBlock,Go.Sort.ahead,a5N,if_true];rw[g2];rfl
   refine key _ (by rw[Go.Sort.size_grow,Ya];omega) ⟨rfl,rfl,rfl,c9K _ _⟩ (fun i hi hh=>Rl i (fun e=>hh (e▸hB)) hi) ?_;refine⟨fun x hxm=>?_, .inr ⟨b,k,_,e,g1,Nt,?_,?_,fun i j x h=>?_⟩⟩
   ·simp only[Wu,a0E]at hxm;obtain⟨_,_,rfl⟩:=hxm;rfl
   ·simp only[putCells,b2P];exact g3
   ·simp only[Wu,a5O]at g4⊢;omega
   ·obtain⟨rfl,m,hm,rfl⟩:=c2H h;have Zd:=(a5y.1 hm).1;rw[hlen]at Zd;simp only[Wu,a5O]at g4
    have Z2:k.1+(i*1+0)<(putCells (Value.int .i64) k.1 (F xs).toArray c).size:=by simp only[putCells,b2P];omega
    have:(putCells (Value.int .i64) k.1 (F xs).toArray c).getD (k.1+(i*1+0)) undef= .int .i64 m:=by
     rw[a3E,a3N Z2,a1J];simp only[putCells,c5W,b7r,hlen];rw[if_pos (by omega)]
     have e1:k.1+(i*1+0)-k.1=i:=by omega
     rw[e1];have:=hm;simp[List.getElem!_eq_getElem?_getD,this]
    rw[this];exact .v _ rfl
end Go.Vm
end

section
namespace Go.Vm
theorem d6z{P:Program}{f:FuncId}
 (hn:∀(p:Option Addr) (cap:Nat) (w:World),Calls P f #[.slice p 0 cap] w fun e w'=>e= .returned (.tuple #[])/\w'=w):ZX P true f [.iv (.Z6 1 [])] [] (.Zp []) []:=by
 refine⟨⟨fun id o h=>(by cases h),fun id o h=>by cases h⟩,?_⟩;intro A ψ w vs hA UJ hinj VU Wi QC U9;have hr:=U9 0 _ rfl
 obtain⟨v,rfl⟩:∃v,vs=[v]:=by
  match vs,QC with
  | [v],_=>exact⟨v,rfl⟩
 simp only[a7S,a0F,a1J]at hr
 have hv:∃p cap,v= .slice p 0 cap:=by
  cases hr with
  |iv _ _ h=>
   generalize hx:IV.Z6 1 []=x at h
   cases h<;>try cases hx
   ·exact⟨_,_,rfl⟩
   ·exact⟨_,_,rfl⟩
 obtain⟨p,cap,rfl⟩:=hv;refine(hn p cap w).mono ?_;rintro e w' ⟨rfl,rfl⟩;refine⟨.tuple #[],ψ,rfl,fun _ _ _=>rfl,a8F _,⟨rfl,rfl,rfl,a8F _⟩,fun _ _ _=>rfl,fun id o b h=>(by cases h),fun id XK o o' b h=>(by cases h),fun id o b h=>(by cases h),fun id o h=>(by cases h), .Zp [] #[] rfl (fun i c h=>by simp at h)⟩
end Go.Vm
end

section
namespace Go.Vm
open Go.Sort (Holds putRow grow putCells mapBlock)
theorem b5R{P:Program}{f:FuncId}(xs R ys:List Int)(m:Nat)(more:List Value)(hR:R.length=xs.length)(hm:m<=xs.length)(ZV:xs≠[])
 (hs:∀(Wh off cap:Nat) (w:World),Holds (Value.int .i64) w Wh off xs.toArray->xs.length<=cap->cap<=9223372036854775807->
  Calls P f (Value.slice (some ⟨Wh,off,none⟩) xs.length cap::more).toArray w fun e w'=>e= .returned (.slice (some ⟨Wh,off,none⟩) m cap)/\∃n,w'=putRow (Value.int .i64) (Go.Sort.ahead w n) Wh off R.toArray):
 ZX P false f (.sl 1000 1 0 xs.length::more.map fun v=> .iv (.v v)) [(1000, .list 1 (Wu (xs++ys)))] (.sl 1000 1 0 m) [(1000, .list 1 (Wu (R++ys)))]:=by
 have XP:∀{o:Ob} {id:Nat} {q:Ob},look [(1000,o)] id=some q->id=1000/\q=o:=by
  intro o id q h;simp only[look]at h;split at h
  ·exact⟨by omega,by cases h;rfl⟩
  ·cases h
 refine⟨⟨fun id o h=>by obtain⟨_,rfl⟩:=XP h;rfl,fun id o h=>by obtain⟨_,rfl⟩:=XP h;rfl⟩,?_⟩
 intro A ψ w vs hA UJ hinj VU Wi QC U9;have ho:=UJ 1000 (.list 1 (Wu (xs++ys))) rfl
 obtain⟨v,vs,rfl⟩:∃v r,vs=v::r:=by
  match vs,QC with
  |v::r,_=>exact⟨v,r,rfl⟩
 have hr:=U9 0 _ rfl;simp only[a7S,a0F,a1J]at hr
 have kP:vs=more:=by
  refine List.ext_getElem? fun i=>?_
  have MU:vs.length=more.length:=by simpa using QC
  cases hi:more[i]? with
  |none=>
   have:=c1Q.1 hi;exact c1Q.2 (by omega)
  |some x=>
   have h1:=U9 (i+1) (.iv (.v x)) (by simp[hi])
   have Z2:i<vs.length:=by have:=(a5y.1 hi).1;omega
   simp only[a7S,a5J,a4G Z2,a1J]at h1⊢
   cases h1 with
   |iv _ _ h2=>cases h2;rfl
 subst kP;obtain⟨Wp,ho⟩:=ho;have W0:=a6I.2 ZV
 rcases ho with⟨_,g2⟩|⟨b,k,c,e,g1,g2,g3,g4,g5⟩
 ·exact absurd (by simpa[Wu]using g2) (by simp[ZV])
 ·obtain⟨cap,a,Vc,hk,hmx,ha,rfl⟩:∃cap a,xs.length<=cap/\(0+cap)*1<=k.2/\cap<2^63/\a=(⟨b,k.1,none⟩:Addr)/\v= .slice (some a) xs.length cap:=by
   generalize hlx:xs.length=n at hr W0
   cases hr with
   |UR=>omega
   |sl id sz lo len b' k' cap a o n' XI he hxx hb ha Vc hk hmx=>
    rw[g1]at hb;cases hb;have:=ha (by omega);rw[d3R,b1H]at this;exact⟨cap,a,Vc,hk,hmx,this,rfl⟩
  subst ha;have C3:b<w.heap.size:=Vw g2;have hB:ZD ψ [(1000, .list 1 (Wu (xs++ys)))] b:=⟨1000, .list 1 (Wu (xs++ys)),rfl, .inl ⟨k,g1⟩⟩
  have Kt:xs.length+ys.length<=k.2:=by simp only[Wu,a5O,a7J]at g4;omega
  have SU:∀i n,(xs++ys)[i]? =some n->c[k.1+i]? =some (.int .i64 n):=by
   intro i n hi;have h5:=c4H (g5 i 0 _ (c3H hi));have Zd:=(a5y.1 hi).1;rw[a7J]at Zd
   have hcs:k.1+i<c.size:=by omega
   rw[c0Q,b1H]at h5;rw[a3E,a3N hcs]at h5;rw[a3N hcs];exact congrArg some h5
  have hH:Holds (Value.int .i64) w b k.1 xs.toArray:=by
   intro j hj;simp only[b7r]at hj
   have QM:(xs++ys)[j]? =some xs[j]:=by rw[a9L hj];exact a4G hj
   constructor
   ·simp only[World.cell?,g2];rw[SU j _ QM];simp[hj]
   ·simp only[World.frozen?,g2];simp
  refine(hs b k.1 cap w hH Vc (by omega)).mono ?_;rintro ex w' ⟨rfl,n,rfl⟩
  have Ya:(putRow (Value.int .i64) (Go.Sort.ahead w n) b k.1 R.toArray).heap.size=w.heap.size:=by simp[putRow,mapBlock,Go.Sort.ahead]
  have Rl:∀i,i≠b->i<w.heap.size->(putRow (Value.int .i64) (Go.Sort.ahead w n) b k.1 R.toArray).heap[i]? =w.heap[i]? :=by
   intro i hi Z2;simp only[putRow,mapBlock,Go.Sort.ahead,a5N];rw[if_neg (Ne.symm hi)]
  have Nt:(putRow (Value.int .i64) (Go.Sort.ahead w n) b k.1 R.toArray).heap[b]? =some (.cells (putCells (Value.int .i64) k.1 R.toArray c) e (0,0)):=by
   simp only[putRow,mapBlock,Go.Sort.ahead,a5N,if_true];rw[g2];rfl
  refine⟨_,ψ,rfl,fun i hi hh=>Rl i (fun e=>hh (e▸hB)) hi,by rw[Ya];exact a8F _,⟨rfl,rfl,rfl,c9K _ _⟩,fun _ _ _=>rfl,fun id o b' h XH=> .inl ?_,fun id XK o o' b' h h' _ _=>?_,fun id o b' h XH=>?_,fun id o h=>?_,?_⟩
  ·obtain⟨rfl,rfl⟩:=XP h;exact⟨.list 1 (Wu (xs++ys)),rfl,XH⟩
  ·obtain⟨rfl,_⟩:=XP h;obtain⟨rfl,_⟩:=XP h';rfl
  ·obtain⟨rfl,rfl⟩:=XP h;have:=(VU 1000 (.list 1 (Wu (xs++ys))) b' rfl XH).1;cases this
  ·obtain⟨rfl,rfl⟩:=XP h;refine⟨fun x hxm=>?_, .inr ⟨b,k,_,e,g1,Nt,?_,?_,fun i j x h=>?_⟩⟩
   ·simp only[Wu,a0E]at hxm;obtain⟨_,_,rfl⟩:=hxm;rfl
   ·simp only[putCells,b2P];exact g3
   ·simp only[Wu,a5O,a7J];omega
   ·obtain⟨rfl,z,hz,rfl⟩:=c2H h;have Zd:=(a5y.1 hz).1;rw[a7J]at Zd
    have Z2:k.1+(i*1+0)<(putCells (Value.int .i64) k.1 R.toArray c).size:=by simp only[putCells,b2P];omega
    have:(putCells (Value.int .i64) k.1 R.toArray c).getD (k.1+(i*1+0)) undef= .int .i64 z:=by
     rw[a3E,a3N Z2,a1J];simp only[putCells,c5W,b7r]
     have e1:k.1+(i*1+0)-k.1=i:=by omega
     by_cases hi:i<R.length
     ·rw[if_pos (by omega),e1];rw[a9L hi]at hz;simp[List.getElem!_eq_getElem?_getD,hz]
     ·rw[if_neg (by omega)]
      have na:(xs++ys)[i]? =some z:=by
       rw[a7U (by omega)]at hz⊢;rw[<-hR];exact hz
      have:=SU i z na
      have e2:k.1+(i*1+0)=k.1+i:=by omega
      simp only[e2];have h9:=(Array.getElem?_eq_some_iff.1 this).2;exact h9
    rw[this];exact .v _ rfl
  ·exact .sl 1000 1 0 m b k cap _ (.list 1 (Wu (R++ys))) _ rfl rfl (by simp[Wu];omega) g1 (fun _=>by simp) (by omega) hk hmx
theorem b6R{P:Program}{f:FuncId}
 (hn:∀(p:Option Addr) (cap:Nat) (w:World),Calls P f #[.slice p 0 cap] w fun e w'=>e= .returned (.slice p 0 cap)/\w'=w):ZX P true f [.iv (.Z6 1 [])] [] (.iv (.Z6 1 [])) []:=by
 refine⟨⟨fun id o h=>(by cases h),fun id o h=>by cases h⟩,?_⟩;intro A ψ w vs hA UJ hinj VU Wi QC U9;have hr:=U9 0 _ rfl
 obtain⟨v,rfl⟩:∃v,vs=[v]:=by
  match vs,QC with
  | [v],_=>exact⟨v,rfl⟩
 simp only[a7S,a0F,a1J]at hr
 have hv:v= .slice none 0 0\/∃a cap,v= .slice (some a) 0 cap:=by
  cases hr with
  |iv _ _ h=>
   generalize hx:IV.Z6 1 []=x at h
   cases h<;>try cases hx
   ·exact .inl rfl
   ·exact .inr ⟨_,_,rfl⟩
 have key:∀{B:Nat->Prop},Yq B w (.Z6 1 []) v:=by
  intro B
  rcases hv with rfl|⟨a,cap,rfl⟩
  ·exact .V5 _
  ·exact .Z6 1 [] 0 0 _ _ (fun _ _=>undef) (by simp) (by simp) (by simp) (by simp[at2]) (by simp[at2])
 obtain⟨p,cap,rfl⟩:∃p cap,v= .slice p 0 cap:=by
  rcases hv with rfl|⟨a,cap,rfl⟩<;>exact⟨_,_,rfl⟩
 refine(hn p cap w).mono ?_;rintro e w' ⟨rfl,rfl⟩;exact⟨_,ψ,rfl,fun _ _ _=>rfl,a8F _,⟨rfl,rfl,rfl,a8F _⟩,fun _ _ _=>rfl,fun id o b h=>(by cases h),fun id XK o o' b h=>(by cases h),fun id o b h=>(by cases h),fun id o h=>(by cases h), .iv _ _ key⟩
theorem b7R{zs:List Int}{x:Int}:x∈Lib.compact zs↔x∈zs:=by
 unfold Lib.compact Lib.compactUpTo;simp only[a0E,a2E,a6V];constructor
 ·rintro⟨i,⟨hi,_⟩,rfl⟩;simp[hi]
 ·intro h;obtain⟨i,hi,he⟩:=List.mem_iff_getElem.1 h
  have:∀(n i:Nat),i<=n->(hi:i<zs.length)->zs[i]=x->∃j,(j<zs.length/\Lib.keeps zs.toArray j=true)/\zs.toArray[j]! =x:=by
   intro n
   induction n with
   |zero=>
    intro i hn hi he
    have:i=0:=by omega
    subst this;exact⟨0,⟨hi,by simp[Lib.keeps]⟩,by simp[hi,he]⟩
   |succ n ih=>
    intro i hn hi he
    by_cases hk:Lib.keeps zs.toArray i=true
    ·exact⟨i,⟨hi,hk⟩,by simp[hi,he]⟩
    ·simp only[Lib.keeps,decide_eq_true_eq,not_or,d5T]at hk;obtain⟨h0,h1⟩:=hk
     have hi1:i-1<zs.length:=by omega
     refine ih (i-1) (by omega) hi1 ?_;simp[hi,hi1]at h1;rw[<-h1];exact he
  exact this i i (a8F _) hi he
theorem b8R{zs:List Int}(h:zs.Pairwise (· <= ·)):(Lib.compact zs).Pairwise (· < ·):=by
 unfold Lib.compact Lib.compactUpTo;rw[List.pairwise_map];have hs:((a7I zs.length).filter (Lib.keeps zs.toArray)).Pairwise (· < ·):=d5R _ List.pairwise_lt_range;refine hs.imp_of_mem ?_;intro i j hi hj Xu;simp only[a2E,a6V]at hi hj;have hk:=hj.2;simp only[Lib.keeps,decide_eq_true_eq]at hk;have hk:=hk.resolve_left (by omega)
 have Ce:j-1<zs.length:=by omega
 have SJ:=hj.1;have Zd:=hi.1;simp[SJ,Ce]at hk;have h1:zs[j-1]<=zs[j]:=b5K.1 h (j-1) j Ce SJ (by omega)
 have h2:zs[i]<=zs[j-1]:=by
  by_cases he:i=j-1
  ·subst he;omega
  ·exact b5K.1 h i (j-1) Zd Ce (by omega)
 simp[Zd,SJ];omega
theorem b9R(zs:List Int):(Lib.compact zs).length<=zs.length:=by
 unfold Lib.compact Lib.compactUpTo;rw[a5O];have:=a0V (Lib.keeps zs.toArray) (a7I zs.length);simpa using this
end Go.Vm
end

section
namespace Go.Rt
open Go.Vm
def Uv{α:Type}(p:α->Bool)(l:List α):Int:=match l.findIdx? p with
 |some i=>i
 |none=> -1
theorem Cq{α:Type}{p:α->Bool}{l:List α}{i:Nat}{e:α}(he:l[i]? =some e)(h:p e=true)(hn:ZK i fun j=>∀x,l[j]? =some x->p x=false):Uv p l=i:=by
 have:l.findIdx? p=some i:=by
  rw[c1C];have hl:=(a5y.1 he).1;have hg:=(a5y.1 he).2;refine⟨hl,by rw[hg];exact h,fun j hj=>?_⟩;have:=hn j hj l[j] (a4G (by omega));simpa using this
 unfold Uv;rw[this]
theorem Di{α:Type}{p:α->Bool}{l:List α}(hn:∀x,x∈l->p x=false):Uv p l= -1:=by
 have:l.findIdx? p=none:=by
  rw[c2Q];exact hn
 unfold Uv;rw[this]
theorem HQ{α:Type}{l:List α}{i:Nat}{p:α->Prop}(hi:l.length<=i)(h:ZK i fun j=>∀x,l[j]? =some x->p x):∀x,x∈l->p x:=by
 intro x hx;obtain⟨j,hj⟩:=a9B hx;exact h j (by have:=(a5y.1 hj).1;omega) x hj
theorem oC{α:Type}(p:α->Bool)(l:List α):(∃(i:Nat) (x:α),l[i]? =some x/\p x=true/\Uv p l=i/\∀j y,j<i->l[j]? =some y->p y=false)\/((∀x,x∈l->p x=false)/\Uv p l= -1):=by
 unfold Uv
 cases h:l.findIdx? p with
 |none=>
  rw[c2Q]at h;exact .inr ⟨h,rfl⟩
 |some i=>
  rw[c1C]at h;obtain⟨hl,h1,h2⟩:=h;refine .inl ⟨i,l[i],a4G hl,h1,rfl,fun j y hj hy=>?_⟩;have:=h2 j hj;have hy2:=(a5y.1 hy).2;rw[hy2]at this;simpa using this
theorem c6y{α:Type}(p:α->Bool)(l:List α):0<=Uv p l↔∃x,x∈l/\p x=true:=by
 rcases oC p l with⟨i,x,h1,h2,h3,_⟩|⟨h1,h2⟩
 ·rw[h3];exact⟨fun _=>⟨x,a6y h1,h2⟩,fun _=>by omega⟩
 ·rw[h2];refine⟨fun h=>by omega,?_⟩;rintro⟨x,hx,hp⟩;rw[h1 x hx]at hp;cases hp
def W8(l:List Int)(x:Int):Int:=Uv (fun y=>decide (x=y)) l
theorem c8y{l:List Int}{x:Int}:0<=W8 l x↔x∈l:=by
 unfold W8;rw[c6y];constructor
 ·rintro⟨y,hy,h⟩;simp only[decide_eq_true_eq]at h;exact h▸hy
 ·exact fun h=>⟨x,h,by simp⟩
theorem c9y{l:List Int}{x:Int}{i:Nat}{e:Int}(he:l[i]? =some e)(h:x=e)(hn:ZK i fun j=>∀y,l[j]? =some y->¬x=y):W8 l x=i:=
 Cq he (by simpa using h) fun j hj y hy=>by simpa using hn j hj y hy
theorem c0z{l:List Int}{x:Int}(hn:∀y,y∈l->¬x=y):W8 l x= -1:=Di fun y hy=>by simpa using hn y hy
instance:DecidableEq Vl:=fun a b=>
 if h:a.text=b.text/\a.n=b.n/\a.s=b.s then .isTrue (by cases a;cases b;simp_all)else .isFalse (by rintro rfl;exact h ⟨rfl,rfl,rfl⟩)
theorem Vl.eq_iff{a b:Vl}:a=b↔a.text=b.text/\a.n=b.n/\a.s=b.s:=by
 constructor
 ·rintro rfl;exact⟨rfl,rfl,rfl⟩
 ·intro h;cases a;cases b;simp_all
structure Vs where
 txn:Int
 n:Int
 deriving DecidableEq
@[simp]def Vs.cells(v:Vs):List IV:=[ci v.txn,ci v.n]
abbrev Vs.av(v:Vs):AV:= .agg (v.cells.map .iv)
theorem Vs.eq_iff{a b:Vs}:a=b↔a.txn=b.txn/\a.n=b.n:=by
 constructor
 ·rintro rfl;exact⟨rfl,rfl⟩
 ·intro h;cases a;cases b;simp_all
structure Rf where
 key:Vl
 Z4:Vs
def Rf.cells(r:Rf):List IV:=[cb r.key.text,ci r.key.n, .v (.string r.key.s),ci r.Z4.txn,ci r.Z4.n]
theorem Rf.Z8(r:Rf):r.cells=[cb r.key.text,ci r.key.n, .v (.string r.key.s),ci r.Z4.txn,ci r.Z4.n]:=rfl
structure Ev where
 txn:Int
 kind:Int
 level:Int
 table:Int
 key:Vl
 Z4:Vs
 n:Int
 row:List Vl
 pred:Pd
 refs:List Rf
 cur:Bool
def Yp(r:List Vl):List (List IV):=r.map Vl.cells
def Mx(r:List Rf):List (List IV):=r.map Rf.cells
@[simp]theorem f1Y(r:List Vl):(Yp r).length=r.length:=by simp[Yp]
@[simp]theorem f2Y(r:List Vl)(i:Nat):(Yp r)[i]? =(r[i]?).map Vl.cells:=by simp[Yp]
@[simp]theorem d3P(r:List Rf):(Mx r).length=r.length:=by simp[Mx]
@[simp]theorem d4P(r:List Rf)(i:Nat):(Mx r)[i]? =(r[i]?).map Rf.cells:=by simp[Mx]
def Ev.cells(e:Ev):List IV:=ci e.txn::ci e.kind::ci e.level::ci e.table::cb e.key.text::ci e.key.n:: .v (.string e.key.s)::ci e.Z4.txn::ci e.Z4.n::ci e.n:: .Z6 3 (Yp e.row)::(e.pred.cells++[.Z6 5 (Mx e.refs),cb e.cur])
theorem Ev.Z8(e:Ev):e.cells=[ci e.txn,ci e.kind,ci e.level,ci e.table,cb e.key.text,ci e.key.n, .v (.string e.key.s),ci e.Z4.txn,ci e.Z4.n,ci e.n, .Z6 3 (Yp e.row),
 ci e.pred.op,ci e.pred.col,cb e.pred.v.text,ci e.pred.v.n, .v (.string e.pred.v.s),cb e.pred.w.text,ci e.pred.w.n, .v (.string e.pred.w.s), .Z6 9 (e.pred.l.map Pd.cells), .Z6 5 (Mx e.refs),cb e.cur]:=by
 unfold Ev.cells;rw[Pd.Z8];rfl
@[simp]theorem Ev.len(e:Ev):e.cells.length=22:=by rw[Ev.Z8];rfl
theorem Ev.at(e:Ev)(i:Nat):e.cells[i]? =([ci e.txn,ci e.kind,ci e.level,ci e.table,cb e.key.text,ci e.key.n, .v (.string e.key.s),ci e.Z4.txn,ci e.Z4.n,ci e.n, .Z6 3 (Yp e.row),
 ci e.pred.op,ci e.pred.col,cb e.pred.v.text,ci e.pred.v.n, .v (.string e.pred.v.s),cb e.pred.w.text,ci e.pred.w.n, .v (.string e.pred.w.s), .Z6 9 (e.pred.l.map Pd.cells), .Z6 5 (Mx e.refs),cb e.cur]:List IV)[i]? :=by rw[Ev.Z8]
theorem Ib{l:List IV}{i:Nat}{x:IV}{h:i<l.length}(e:l[i]? =some x):l[i]=x:=(a5y.1 e).2
section
variable(e:Ev)
@[simp]theorem Ev.g0{h}:e.cells[0]'h=ci e.txn:=Ib (by rw[Ev.at];rfl)
@[simp]theorem Ev.g1{h}:e.cells[1]'h=ci e.kind:=Ib (by rw[Ev.at];rfl)
@[simp]theorem Ev.g2{h}:e.cells[2]'h=ci e.level:=Ib (by rw[Ev.at];rfl)
@[simp]theorem Ev.g3{h}:e.cells[3]'h=ci e.table:=Ib (by rw[Ev.at];rfl)
@[simp]theorem Ev.g4{h}:e.cells[4]'h=cb e.key.text:=Ib (by rw[Ev.at];rfl)
@[simp]theorem Ev.g5{h}:e.cells[5]'h=ci e.key.n:=Ib (by rw[Ev.at];rfl)
@[simp]theorem Ev.g6{h}:e.cells[6]'h= .v (.string e.key.s):=Ib (by rw[Ev.at];rfl)
@[simp]theorem Ev.g7{h}:e.cells[7]'h=ci e.Z4.txn:=Ib (by rw[Ev.at];rfl)
@[simp]theorem Ev.g8{h}:e.cells[8]'h=ci e.Z4.n:=Ib (by rw[Ev.at];rfl)
@[simp]theorem Ev.g9{h}:e.cells[9]'h=ci e.n:=Ib (by rw[Ev.at];rfl)
@[simp]theorem Ev.g10{h}:e.cells[10]'h= .Z6 3 (Yp e.row):=Ib (by rw[Ev.at];rfl)
@[simp]theorem Ev.g20{h}:e.cells[20]'h= .Z6 5 (Mx e.refs):=Ib (by rw[Ev.at];rfl)
@[simp]theorem Ev.g21{h}:e.cells[21]'h=cb e.cur:=Ib (by rw[Ev.at];rfl)
@[simp]theorem Ev.q0:e.cells[0]? =some (ci e.txn):=by rw[Ev.at];rfl
@[simp]theorem Ev.q1:e.cells[1]? =some (ci e.kind):=by rw[Ev.at];rfl
@[simp]theorem Ev.q2:e.cells[2]? =some (ci e.level):=by rw[Ev.at];rfl
@[simp]theorem Ev.q3:e.cells[3]? =some (ci e.table):=by rw[Ev.at];rfl
@[simp]theorem Ev.q4:e.cells[4]? =some (cb e.key.text):=by rw[Ev.at];rfl
@[simp]theorem Ev.q5:e.cells[5]? =some (ci e.key.n):=by rw[Ev.at];rfl
@[simp]theorem Ev.q6:e.cells[6]? =some (.v (.string e.key.s)):=by rw[Ev.at];rfl
@[simp]theorem Ev.q7:e.cells[7]? =some (ci e.Z4.txn):=by rw[Ev.at];rfl
@[simp]theorem Ev.q8:e.cells[8]? =some (ci e.Z4.n):=by rw[Ev.at];rfl
@[simp]theorem Ev.q9:e.cells[9]? =some (ci e.n):=by rw[Ev.at];rfl
@[simp]theorem Ev.q10:e.cells[10]? =some (.Z6 3 (Yp e.row)):=by rw[Ev.at];rfl
@[simp]theorem Ev.q20:e.cells[20]? =some (.Z6 5 (Mx e.refs)):=by rw[Ev.at];rfl
@[simp]theorem Ev.q21:e.cells[21]? =some (cb e.cur):=by rw[Ev.at];rfl
@[simp]theorem Ev.g9T:a1V 3 (c5P 4 (e.cells.map AV.iv))=[.iv (cb e.key.text), .iv (ci e.key.n), .iv (.v (.string e.key.s))]:=by rw[Ev.Z8];rfl
@[simp]theorem Ev.g0U:a1V 2 (c5P 7 (e.cells.map AV.iv))=[.iv (ci e.Z4.txn), .iv (ci e.Z4.n)]:=by rw[Ev.Z8];rfl
@[simp]theorem Ev.qN:a1V 9 (c5P 11 (e.cells.map AV.iv))=e.pred.cells.map AV.iv:=by rw[Ev.Z8,Pd.Z8];rfl
@[simp]theorem Ev.f3Y:a1V 22 e.cells=e.cells:=a0z (by simp)
@[simp]theorem Ev.f0M:a1V 22 (e.cells.map AV.iv)=e.cells.map AV.iv:=a0z (by simp)
end
def Ev.av(e:Ev):AV:= .agg (e.cells.map .iv)
structure Ins where
 table:Int
 key:Vl
 ZU:List Int
def Ins.cells(o:Ins):List IV:=[ci o.table,cb o.key.text,ci o.key.n, .v (.string o.key.s), .Z6 1 (YW o.ZU)]
theorem Ins.Z8(o:Ins):o.cells=[ci o.table,cb o.key.text,ci o.key.n, .v (.string o.key.s), .Z6 1 (YW o.ZU)]:=rfl
structure Hs where
 tables:List Tb
 events:List Ev
 order:List Ins
def Za(l:List Tb):List (List IV):=l.map fun t=>[V4 t]
def ZB(l:List Ev):List (List IV):=l.map Ev.cells
def Zi(l:List Ins):List (List IV):=l.map Ins.cells
@[simp]theorem f4Y(l:List Tb):(Za l).length=l.length:=by simp[Za]
@[simp]theorem f5Y(l:List Tb)(i:Nat):(Za l)[i]? =(l[i]?).map fun t=>[V4 t]:=by simp[Za]
@[simp]theorem f6Y(l:List Ev):(ZB l).length=l.length:=by simp[ZB]
@[simp]theorem f7Y(l:List Ev)(i:Nat):(ZB l)[i]? =(l[i]?).map Ev.cells:=by simp[ZB]
@[simp]theorem f8Y(l:List Ins):(Zi l).length=l.length:=by simp[Zi]
@[simp]theorem f9Y(l:List Ins)(i:Nat):(Zi l)[i]? =(l[i]?).map Ins.cells:=by simp[Zi]
def Hs.cells(h:Hs):List IV:=[.Z6 1 (Za h.tables), .Z6 22 (ZB h.events), .Z6 5 (Zi h.order)]
def Hs.av(h:Hs):AV:= .agg [.iv (.Z6 1 (Za h.tables)), .iv (.Z6 22 (ZB h.events)), .iv (.Z6 5 (Zi h.order))]
structure Ev.Ok (e:Ev):Prop where
 row:e.row.length<2^63
 refs:e.refs.length<2^63
 pred:e.pred.Ok
 key:e.key.s.size<2^63
 f2Q:∀r,r∈e.refs->r.key.s.size<2^63
structure Hs.Ok (h:Hs):Prop where
 tables:h.tables.length<2^63
 events:h.events.length<2^63
 order:h.order.length<2^63
 ev:∀e,e∈h.events->e.Ok
 ZU:∀o,o∈h.order->o.ZU.length<2^63
 tb:∀t,t∈h.tables->t.length<2^63
 Cd:∀o,o∈h.order->o.key.s.size<2^63
def Ev.Sw(txn table:Int)(k:Vl)(e:Ev):Bool:=decide (e.kind=3)&&decide (e.txn=txn)&&decide (e.table=table)&&decide (e.key=k)
theorem Ev.Yg{e:Ev}{txn table:Int}{k:Vl}:e.Sw txn table k=true↔e.kind=3/\e.txn=txn/\e.table=table/\e.key.text=k.text/\e.key.n=k.n/\e.key.s=k.s:=by
 unfold Ev.Sw;simp only[a3C,decide_eq_true_eq,Vl.eq_iff,and_assoc]
def Yk(es:List Ev)(txn table:Int)(k:Vl):Nat:=(es.filter (Ev.Sw txn table k)).length
theorem d7P{es:List Ev}{i:Nat}{e:Ev}(h:es[i]? =some e)(txn table:Int)(k:Vl):Yk (es.take (i+1)) txn table k=Yk (es.take i) txn table k+if e.Sw txn table k=true then 1 else 0:=by
 have:es.take (i+1)=es.take i++[e]:=by rw[a3I,h];rfl
 rw[this];unfold Yk;rw[List.filter_append,a7J]
 congr 1
 cases hw:e.Sw txn table k<;>simp[hw]
theorem d8P(es:List Ev)(txn table:Int)(k:Vl):Yk es txn table k<=es.length:=a0V _ _
theorem d9P{p q:Prop}:Y7 p=Y7 q↔(p↔q):=by rw[Tf,UQ]
theorem d0Q{p q:Prop}[Decidable q]:decide q=Y7 p↔(q↔p):=by rw[Tf,decide_eq_true_eq]
theorem Qp{α:Type}{l:List α}{i:Nat}{x:α}(h:l[i]? =some x):l.take (i+1)=l.take i++[x]:=by
 rw[a3I,h];rfl
def MW(es:List Ev)(txn:Int):Prop:=∃x,x∈es/\x.txn=txn
def On(es:List Ev)(txn:Int):Prop:=∀x,x∈es->x.txn=txn->x.kind≠5/\x.kind≠6
@[simp]theorem d4Q{txn:Int}:MW [] txn↔False:=by unfold MW;simp
@[simp]theorem d5Q{txn:Int}:On [] txn:=fun _ h=>by cases h
theorem d6Q{es:List Ev}{e:Ev}{txn:Int}:MW (es++[e]) txn↔MW es txn\/e.txn=txn:=by
 unfold MW;constructor
 ·rintro⟨x,h,h2⟩
  rcases a9E.1 h with h|h
  ·exact .inl ⟨x,h,h2⟩
  ·simp only[a1B]at h;subst h;exact .inr h2
 ·rintro(⟨x,h,h2⟩|h)
  ·exact⟨x,a7N _ h,h2⟩
  ·exact⟨e,by simp,h⟩
theorem d7Q{es:List Ev}{e:Ev}{txn:Int}:On (es++[e]) txn↔On es txn/\(e.txn=txn->e.kind≠5/\e.kind≠6):=by
 unfold On;constructor
 ·intro h;exact⟨fun x hx=>h x (a7N _ hx),h e (by simp)⟩
 ·rintro⟨h,h2⟩ x hx
  rcases a9E.1 hx with hx|hx
  ·exact h x hx
  ·simp only[a1B]at hx;subst hx;exact h2
def Fo(es:List Ev)(e:Ev):Prop:=1<=e.txn/\1<=e.kind/\e.kind<=6/\On es e.txn/\(e.kind=1->¬MW es e.txn/\1<=e.level/\e.level<=5)/\(e.kind≠1->MW es e.txn)
structure Eg where
 Z4:Int
 to:Int
 kind:Int
 table:Int
 key:Vl
 Zw:Bool
 deriving DecidableEq
def Eg.cells(e:Eg):List IV:=[ci e.Z4,ci e.to,ci e.kind,ci e.table,cb e.key.text,ci e.key.n, .v (.string e.key.s),cb e.Zw]
def Eg.av(e:Eg):AV:= .agg (e.cells.map .iv)
def ZM(l:List Eg):List (List IV):=l.map Eg.cells
def ZW(l:List Eg):IV:= .Z6 8 (ZM l)
@[simp]theorem f3P(l:List Eg):(ZM l).length=l.length:=by simp[ZM]
@[simp]theorem f4P(l:List Eg)(i:Nat):(ZM l)[i]? =(l[i]?).map Eg.cells:=by simp[ZM]
theorem Eg.eq_iff{a b:Eg}:a=b↔a.Z4=b.Z4/\a.to=b.to/\a.kind=b.kind/\a.table=b.table/\a.key=b.key/\a.Zw=b.Zw:=by
 obtain⟨a1,a2,a3,a4,a5,a8⟩:=a;obtain⟨b1,b2,b3,b4,b5,b8⟩:=b;simp
end Go.Rt
end

section
namespace Go.Vm
@[simp]theorem ev_pn{s:St}:s.ev (.const (.pointer none))= .iv (.v (.pointer none)):=rfl
theorem b7l{s:St}{j i sz id:Nat}{cs:List AV}(h:look s.hp j=some (.box cs))(hi:cs[i]? =some (.nil sz))(YQ:look s.hp id=none)(Vi:id<1000):
 Le s ((s.add id (.list sz [])).add j (.box (cs.set i (.sl id sz 0 0)))):=by
 rintro E n a w ⟨ψ,hs⟩;have h1:=hs.new (o:= .list sz []) (p:=none) (w':=w) Vi YQ (Ext.refl w) (fun b k e=>by cases e) ⟨fun _ h=>(by cases h), .inl ⟨by simp[XE],rfl⟩⟩
 have hj:j≠id:=by rintro rfl;rw[YQ]at h;cases h
 have hl:look (s.add id (.list sz [])).hp j=some (.box cs):=by rw[WL,if_neg (Ne.symm hj)];exact h
 obtain⟨b,c,e,g1,g2,g3,g4⟩:=h1.YC j _ hl
 have VY:XE ψ id none id=none:=by simp[XE]
 refine⟨_,h1.MV (o':= .box (cs.set i (.sl id sz 0 0))) hl (Ob.le_none rfl) rfl (fun h=>by cases h) g1 (fun _ _=>rfl) rfl ⟨rfl,rfl,rfl,a8F _⟩ fun hm _=>⟨b,c,e,g1,g2,by simpa using g3,fun k x hx=>?_⟩⟩;rw[List.getElem?_set]at hx;split at hx
 ·rename_i e1;subst e1;split at hx
  ·simp only[a3y]at hx;subst hx;have:=g4 i _ hi;generalize c.getD i undef=v at this;cases this;exact .UR id sz (.list sz []) 0 (by rw[WL,if_neg hj,WL,if_pos rfl]) rfl VY
  ·cases hx
 ·exact hm x _ (g4 k x hx)
theorem b8l{P:Program}{c:Z9}{s:St}{O:Yr}(D':List Nat)(n:Nat)(S:Nat->St)(Q:Nat->Prop)(h0:Le s (S 0))(q0:Q 0)
 (hs:∀i,i<=n->Q i->X7 P c (S i) {O with n:=fun s2=>i<n/\LeTo D' s2 (S (i+1))/\Q (i+1)}):HY P c s O:=by
 refine⟨fun k s=>∃i,i<=n/\k=n-i/\s=S i/\Q i,h0.x ⟨_,0,c0t _,rfl,rfl,q0⟩,?_⟩;rintro k s' ⟨i,hi,rfl,rfl,hq⟩;refine CB c (O:={O with n:=fun s2=>i<n/\LeTo D' s2 (S (i+1))/\Q (i+1)}) (fun s2 h=>?_) (fun _ _ h=>h) (fun _ h=>h) (fun _ _ h=>h) (hs i hi hq);obtain⟨Z2,hle,Vz⟩:=h;exact⟨_,_,by omega,hle.le,i+1,Z2,rfl,rfl,Vz⟩
end Go.Vm
end

section
namespace Go.Rt
def HP{α:Type}:List (List α)->List α
 | []=>[]
 |x::r=>if x.isEmpty then HP r else x
def S4{α:Type}(f:Nat->List α)(j:Nat):List α:=HP ((a7I j).map f)
section
variable{α:Type}
theorem b7n(a b:List (List α)):HP (a++b)=if(HP a).isEmpty then HP b else HP a:=by
 induction a with
 |nil=>simp[HP]
 |cons x r ih=>
  simp only[b4O,HP]
  by_cases h:x.isEmpty<;>simp[h,ih]
theorem b8n(f:Nat->List α)(j:Nat):S4 f (j+1)=if(S4 f j).isEmpty then f j else S4 f j:=by
 unfold S4;rw[List.range_succ,List.map_append,b7n]
 by_cases h:(f j).isEmpty
 ·have:f j=[]:=List.isEmpty_iff.1 h;simp[HP,this]
 ·simp[HP,h]
theorem b9n{f:Nat->List α}{j:Nat}(h:S4 f j=[]):S4 f (j+1)=f j:=by rw[b8n,h];rfl
theorem b0o{f:Nat->List α}{j:Nat}(h:S4 f j≠[]):S4 f (j+1)=S4 f j:=by
 rw[b8n,if_neg (by simpa using h)]
theorem b1o{f:Nat->List α}{j n:Nat}(h:S4 f j≠[])(hn:j<=n):S4 f n=S4 f j:=by
 induction n with
 |zero=>
  have:j=0:=by omega
  subst this;rfl
 |succ n ih=>
  by_cases e:j=n+1
  ·subst e;rfl
  ·have:=ih (by omega);rw[b0o (by rw[this];exact h),this]
theorem b2o{f:Nat->List α}:∀(n:Nat),(∀i,i<n->f i=[])->S4 f n=[]
 | 0,_=>rfl
 |n+1,h=>by rw[b9n (b2o n fun i hi=>h i (by omega))];exact h n (by omega)
theorem b3o{f:Nat->List α}{i n:Nat}(h:∀j,j<i->f j=[])(hi:i<n)(ZV:f i≠[]):S4 f n=f i:=by
 have h1:=b9n (b2o i h);rw[b1o (j:=i+1) (by rw[h1];exact ZV) hi,h1]
theorem b4o{f:Nat->List α}:∀{n:Nat},S4 f n=[]->∀i,i<n->f i=[]
 | 0,_,i,hi=>by omega
 |n+1,h,i,hi=>by
  have h0:S4 f n=[]:=by
   by_cases hc:S4 f n=[]
   ·exact hc
   ·rw[b0o hc]at h;exact h
  rw[b9n h0]at h
  by_cases XZ:i=n
  ·subst XZ;exact h
  ·exact b4o h0 i (by omega)
theorem b5o{f:Nat->List α}:∀{n:Nat},S4 f n≠[]->∃i,i<n/\S4 f n=f i/\∀j,j<i->f j=[]
 | 0,h=>absurd rfl h
 |n+1,h=>by
  by_cases hc:S4 f n=[]
  ·exact⟨n,by omega,b9n hc,fun j hj=>b4o hc j hj⟩
  ·obtain⟨i,h1,h2,h3⟩:=b5o hc;exact⟨i,by omega,by rw[b0o hc];exact h2,h3⟩
end
abbrev Fm:=List (Int×Int)
def Xz(f:Fm)(k:Int):Option Int:=(f.find? fun p=>decide (p.1=k)).map (·.2)
theorem b6o(f:Fm)(k i q:Int):Xz (f++[(k,i)]) q=(Xz f q).or (if k=q then some i else none):=by
 unfold Xz;rw[List.find?_append]
 cases h:d5S (fun p=>decide (p.1=q)) f with
 |some p=>simp
 |none=>by_cases e:k=q<;>simp[d5S,e]
theorem b7o{f:Fm}{k:Int}:Xz f k=none↔k∉f.map (·.1):=by
 unfold Xz;rw[Option.map_eq_none_iff,List.find?_eq_none];simp only[decide_eq_true_eq,a0E,not_exists,not_and]
theorem b8o:∀{f:Fm} {k i:Int},(f.map (·.1)).Nodup->(k,i)∈f->Xz f k=some i
 | [],k,i,_,h=>by cases h
 |(a,b)::f,k,i,hn,h=>by
  simp only[a0I,b2H]at hn;unfold Xz;rw[c4y]
  rcases a5E.1 h with h|h
  ·cases h;simp
  ·have hak:a≠k:=by
    rintro rfl;exact hn.1 (a0E.2 ⟨_,h,rfl⟩)
   have:=b8o hn.2 h;unfold Xz at this;simp only[hak,decide_false];exact this
structure Gr where
 m:Nat
 F:Nat->Int
 T:Nat->Int
 ok:Nat->Bool
def He(p:List Nat):Nat:=p.getLast?.getD 0
theorem b0p(p:List Nat)(k:Nat):He (p++[k])=k:=by simp[He]
def Wo(p:List Nat)(ks:List Nat):List (List Nat):=ks.map fun k=>p++[k]
section
variable(G:Gr)
def nd(p:List Nat):Int:=G.T (He p)
def Xx:List Int->List (List Nat)->List (List Nat)
 | _,[]=>[]
 |S,p::r=>if nd G p∈S then Xx S r else p::Xx (nd G p::S) r
def after:List Int->List (List Nat)->List Int
 |S,[]=>S
 |S,p::r=>if nd G p∈S then after S r else after (nd G p::S) r
variable{G}
theorem Ow(p:List Nat)(k:Nat):nd G (p++[k])=G.T k:=by simp[nd,b0p]
theorem b3p(k:Nat):nd G [k]=G.T k:=rfl
theorem oB(S:List Int)(p:List Nat)(r:List (List Nat)):Xx G S (p::r)=if nd G p∈S then Xx G S r else p::Xx G (nd G p::S) r:=rfl
theorem b5p(S:List Int)(p:List Nat)(r:List (List Nat)):after G S (p::r)=if nd G p∈S then after G S r else after G (nd G p::S) r:=rfl
theorem b6p(l:List (List Nat)):∀(S:List Int) (x:Int),x∈after G S l↔x∈S\/∃p,p∈l/\nd G p=x:=by
 induction l with
 |nil=>intro S x;simp[after]
 |cons p r ih=>
  intro S x;unfold after
  by_cases h:nd G p∈S
  ·rw[if_pos h,ih];constructor
   ·rintro(hx|⟨q,hq,hx⟩)
    ·exact .inl hx
    ·exact .inr ⟨q,a9C _ hq,hx⟩
   ·rintro(hx|⟨q,hq,hx⟩)
    ·exact .inl hx
    ·rcases a5E.1 hq with rfl|hq
     ·exact .inl (hx▸h)
     ·exact .inr ⟨q,hq,hx⟩
  ·rw[if_neg h,ih];constructor
   ·rintro(hx|⟨q,hq,hx⟩)
    ·rcases a5E.1 hx with rfl|hx
     ·exact .inr ⟨p,a4E,rfl⟩
     ·exact .inl hx
    ·exact .inr ⟨q,a9C _ hq,hx⟩
   ·rintro(hx|⟨q,hq,hx⟩)
    ·exact .inl (a9C _ hx)
    ·rcases a5E.1 hq with rfl|hq
     ·exact .inl (hx▸a4E)
     ·exact .inr ⟨q,hq,hx⟩
theorem b7p(a:List (List Nat)):∀(S:List Int) (b:List (List Nat)),Xx G S (a++b)=Xx G S a++Xx G (after G S a) b:=by
 induction a with
 |nil=>intro S b;rfl
 |cons p r ih=>
  intro S b;rw[b4O,oB,oB,b5p]
  by_cases h:nd G p∈S
  ·rw[if_pos h,if_pos h,if_pos h];exact ih S b
  ·rw[if_neg h,if_neg h,if_neg h,ih];rfl
theorem b8p(l:List (List Nat)):∀{S S':List Int},(∀x,x∈S↔x∈S')->Xx G S l=Xx G S' l:=by
 induction l with
 |nil=>intro S S' _;rfl
 |cons p r ih=>
  intro S S' h;unfold Xx
  by_cases hp:nd G p∈S
  ·rw[if_pos hp,if_pos ((h _).1 hp)];exact ih h
  ·rw[if_neg hp,if_neg fun h'=>hp ((h _).2 h')];rw[ih (S:=nd G p::S) (S':=nd G p::S') fun x=>by simp[h x]]
theorem b9p(l:List (List Nat)):∀{S:List Int},(∀p,p∈l->nd G p∈S)->Xx G S l=[]:=by
 induction l with
 |nil=>intro S _;rfl
 |cons p r ih=>
  intro S h;unfold Xx;rw[if_pos (h p a4E)]
  exact ih fun q hq=>h q (a9C _ hq)
theorem l7(l:List (List Nat)):∀{S:List Int} {p:List Nat},p∈Xx G S l->p∈l/\nd G p∉S:=by
 induction l with
 |nil=>intro S p h;cases h
 |cons q r ih=>
  intro S p h;unfold Xx at h
  by_cases hq:nd G q∈S
  ·rw[if_pos hq]at h;obtain⟨h1,h2⟩:=ih h;exact⟨a9C _ h1,h2⟩
  ·rw[if_neg hq]at h
   rcases a5E.1 h with rfl|h
   ·exact⟨a4E,hq⟩
   ·obtain⟨h1,h2⟩:=ih h;exact⟨a9C _ h1,fun h'=>h2 (a9C _ h')⟩
theorem b1q(l:List (List Nat)):∀{S:List Int} {p:List Nat},p∈l->nd G p∈S\/∃q,q∈Xx G S l/\nd G q=nd G p:=by
 induction l with
 |nil=>intro S p h;cases h
 |cons q r ih=>
  intro S p h;unfold Xx
  by_cases hq:nd G q∈S
  ·rw[if_pos hq]
   rcases a5E.1 h with rfl|h
   ·exact .inl hq
   ·exact ih h
  ·rw[if_neg hq]
   rcases a5E.1 h with rfl|h
   ·exact .inr ⟨p,a4E,rfl⟩
   ·rcases ih (S:=nd G q::S) h with h'|⟨q',h1,h2⟩
    ·rcases a5E.1 h' with h'|h'
     ·exact .inr ⟨q,a4E,h'.symm⟩
     ·exact .inl h'
    ·exact .inr ⟨q',a9C _ h1,h2⟩
theorem b2q(l:List (List Nat)):∀{S:List Int},((Xx G S l).map (nd G)).Nodup:=by
 induction l with
 |nil=>intro S;simp[Xx]
 |cons q r ih=>
  intro S;unfold Xx
  by_cases hq:nd G q∈S
  ·rw[if_pos hq];exact ih
  ·rw[if_neg hq,a0I,b2H];refine⟨fun h=>?_,ih⟩;obtain⟨p,hp,he⟩:=a0E.1 h;exact(l7 r hp).2 (he▸a4E)
theorem b3q(c:Int->Bool)(l:List (List Nat)):∀{S:List Int},(∀x,x∈S->c x=false)->(Xx G S l).find? (fun p=>c (nd G p))=l.find? fun p=>c (nd G p):=by
 induction l with
 |nil=>intro S _;rfl
 |cons q r ih=>
  intro S h;unfold Xx
  by_cases hq:nd G q∈S
  ·rw[if_pos hq,ih h];simp[h _ hq]
  ·rw[if_neg hq]
   cases hc:c (nd G q)with
   |true=>simp[hc]
   |false=>
    simp only[c4y,hc]
    exact ih fun x hx=>by
     rcases a5E.1 hx with rfl|hx
     ·exact hc
     ·exact h x hx
def c2(p:List Nat)(k:Nat):Bool:=decide (G.ok k=true/\G.F k=nd G p)
def c1(p:List Nat)(k:Nat):Bool:=decide (G.ok k=true/\G.F k=nd G p/\G.T k∉p.map G.T)
variable(G) in
def ext1(p:List Nat):List (List Nat):=Wo p ((a7I G.m).filter (c1 (G:=G) p))
variable(G) in
def Wn(p:List Nat):List (List Nat):=Wo p ((a7I G.m).filter (c2 (G:=G) p))
variable(G) in
def M9(a b:Int):Prop:=∃k,k<G.m/\G.ok k=true/\G.F k=a/\G.T k=b
theorem b4q(p:List Nat)(ks:List Nat):∀{S:List Int},(∀x,x∈p.map G.T->x∈S)->Xx G S (Wo p (ks.filter (c1 (G:=G) p)))=Xx G S (Wo p (ks.filter (c2 (G:=G) p))):=by
 induction ks with
 |nil=>intro S _;rfl
 |cons k r ih=>
  intro S hp;rw[b2p,b2p]
  by_cases h2:c2 (G:=G) p k=true
  ·rw[if_pos h2]
   by_cases hm:G.T k∈p.map G.T
   ·have h1:¬c1 (G:=G) p k=true:=by simp only[c1,decide_eq_true_eq];exact fun h=>h.2.2 hm
    rw[if_neg h1]
    show _=Xx G S ((p++[k])::Wo p (r.filter (c2 (G:=G) p)))
    rw[oB,Ow,if_pos (hp _ hm)];exact ih hp
   ·have h1:c1 (G:=G) p k=true:=by
     simp only[c2,decide_eq_true_eq]at h2;simp only[c1,decide_eq_true_eq];exact⟨h2.1,h2.2,hm⟩
    rw[if_pos h1]
    show Xx G S ((p++[k])::Wo p (r.filter (c1 (G:=G) p)))=Xx G S ((p++[k])::Wo p (r.filter (c2 (G:=G) p)))
    rw[oB,oB,ih hp,ih fun x hx=>a9C _ (hp x hx)]
  ·have h1:¬c1 (G:=G) p k=true:=by
    simp only[c2,decide_eq_true_eq]at h2
    simp only[c1,decide_eq_true_eq];exact fun h=>h2 ⟨h.1,h.2.1⟩
   rw[if_neg h1,if_neg h2];exact ih hp
theorem b5q{p:List Nat}{S:List Int}(hp:∀x,x∈p.map G.T->x∈S):Xx G S (ext1 G p)=Xx G S (Wn G p):=b4q p _ hp
theorem b6q{p q:List Nat}(h:q∈ext1 G p):∃k,q=p++[k]/\k<G.m/\G.ok k=true/\G.F k=nd G p/\G.T k∉p.map G.T:=by
 obtain⟨k,hk,rfl⟩:=a0E.1 h;rw[a2E,a6V]at hk;have:=hk.2;simp only[c1,decide_eq_true_eq]at this;exact⟨k,rfl,hk.1,this⟩
theorem b7q{p q:List Nat}(h:q∈Wn G p):∃k,q=p++[k]/\k<G.m/\G.ok k=true/\G.F k=nd G p:=by
 obtain⟨k,hk,rfl⟩:=a0E.1 h;rw[a2E,a6V]at hk;have:=hk.2;simp only[c2,decide_eq_true_eq]at this;exact⟨k,rfl,hk.1,this⟩
theorem b8q{p:List Nat}{k:Nat}(hm:k<G.m)(ho:G.ok k=true)(hF:G.F k=nd G p)(hT:G.T k∉p.map G.T):p++[k]∈ext1 G p:=
 a0E.2 ⟨k,a2E.2 ⟨a6V.2 hm,by simp only[c1,decide_eq_true_eq];exact⟨ho,hF,hT⟩⟩,rfl⟩
theorem b9q{p:List Nat}{k:Nat}(hm:k<G.m)(ho:G.ok k=true)(hF:G.F k=nd G p):p++[k]∈Wn G p:=
 a0E.2 ⟨k,a2E.2 ⟨a6V.2 hm,by simp only[c2,decide_eq_true_eq];exact⟨ho,hF⟩⟩,rfl⟩
theorem b0r{p:List Nat}{S:List Int}(hp:∀x,x∈p.map G.T->x∈S)(x:Int):x∈after G S (ext1 G p)↔x∈S\/M9 G (nd G p) x:=by
 rw[b6p];constructor
 ·rintro(h|⟨q,hq,rfl⟩)
  ·exact .inl h
  ·obtain⟨k,rfl,h1,h2,h3,_⟩:=b6q hq;rw[Ow];exact .inr ⟨k,h1,h2,h3,rfl⟩
 ·rintro(h|⟨k,h1,h2,h3,rfl⟩)
  ·exact .inl h
  ·by_cases hx:G.T k∈p.map G.T
   ·exact .inl (hp _ hx)
   ·exact .inr ⟨p++[k],b8q h1 h2 h3 hx,Ow p k⟩
theorem b1r{p:List Nat}{S:List Int}(x:Int):x∈after G S (Wn G p)↔x∈S\/M9 G (nd G p) x:=by
 rw[b6p];constructor
 ·rintro(h|⟨q,hq,rfl⟩)
  ·exact .inl h
  ·obtain⟨k,rfl,h1,h2,h3⟩:=b7q hq;rw[Ow];exact .inr ⟨k,h1,h2,h3,rfl⟩
 ·rintro(h|⟨k,h1,h2,h3,rfl⟩)
  ·exact .inl h
  ·exact .inr ⟨p++[k],b9q h1 h2 h3,Ow p k⟩
theorem b2r(L:List (List Nat)):∀{S:List Int},(∀p,p∈L->∀x,x∈p.map G.T->x∈S)->Xx G S (L.flatMap (ext1 G))=Xx G S (L.flatMap (Wn G)):=by
 induction L with
 |nil=>intro S _;rfl
 |cons p r ih=>
  intro S h;have hp:=h p a4E;rw[b0m,b0m,b7p,b7p,b5q hp]
  congr 1
  rw[ih fun q hq x hx=>(b0r hp x).2 (.inl (h q (a9C _ hq) x hx))]
  exact b8p _ fun x=>(b0r hp x).trans (b1r x).symm
theorem b3r(W:List (List Nat)):∀{S R:List Int},(∀p,p∈W->∀x,x∈p.map G.T->x∈S)->(∀i,i∈R->∀k,M9 G i k->k∈S)->
 Xx G S (W.flatMap (ext1 G))=Xx G S ((Xx G R W).flatMap (ext1 G)):=by
 induction W with
 |nil=>intro S R _ _;rfl
 |cons p r ih=>
  intro S R h hT;have hp:=h p a4E;rw[b0m,b7p,oB R]
  by_cases hl:nd G p∈R
  ·rw[if_pos hl,b9p (ext1 G p) fun q hq=>by
    obtain⟨k,rfl,h1,h2,h3,_⟩:=b6q hq
    rw[Ow];exact hT _ hl _ ⟨k,h1,h2,h3,rfl⟩]
   rw[b3H, <-ih (fun q hq=>h q (a9C _ hq)) hT]
   refine b8p _ fun x=>(b0r hp x).trans ⟨?_, .inl⟩
   rintro(h|h)
   ·exact h
   ·exact hT _ hl x h
  ·rw[if_neg hl,b0m,b7p]
   congr 1
   refine ih (fun q hq x hx=>(b0r hp x).2 (.inl (h q (a9C _ hq) x hx))) fun i hi k hk=>(b0r hp k).2 ?_
   rcases a5E.1 hi with rfl|hi
   ·exact .inr hk
   ·exact .inl (hT i hi k hk)
end
end Go.Rt
end
